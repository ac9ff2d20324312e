/- The contract of the statements' awake: it answers true. Conditions: none. -/
import Derived.Test.YtnlapancooecjaaAbv
import Derived.Test.YtnlapancooecjaaMst
namespace Go.Proofs.Ytnlapancooecjaa
set_option linter.unusedVariables false
set_option linter.unusedSimpArgs false
open Go.RowKit Go.Proofs.YtnlapancooecjaaW.PrintWords

/-! ### awake -/
def gr : List (List Int) := [[1, 2], [3], [3], [1], [0, 9]]
theorem gr_above : aboveF 50 gr = some [-1, 0, 0, 0, -1] := by decide +kernel
theorem gr_order : orderF gr = [0, 2, 1, 3] := by decide +kernel
theorem gr_reach : reachF gr = [true, true, true, true, false] := by decide +kernel
theorem gr_m1 : mustF gr 0 3 = true := by decide +kernel
theorem gr_m2 : mustF gr 1 3 = false := by decide +kernel
theorem gr_m3 : mustF gr 0 4 = false := by decide +kernel
theorem nil_order : orderF [] = [] := by decide +kernel
theorem gr_l1 : PFlowReach.seedcornref26_List.f 10 [-1, 0, 0, 0, -1] [-1, 0, 0, 0, -1] = some true := by decide +kernel
theorem gr_l2 : PFlowReach.seedcornref26_List.f 10 [0, 2, 1, 3] [0, 2, 1, 3] = some true := by decide +kernel
theorem gr_succs : ∀ b, (succs gr b).length ≤ 400 := by
  intro b
  unfold succs
  rcases Nat.lt_or_ge b.toNat 5 with h | h
  · have : ∀ n, n < 5 → (gr.getD n []).length ≤ 400 := by decide +kernel
    exact this _ h
  · rw [List.getD_eq_getElem?_getD, List.getElem?_eq_none (by exact h)]
    simp

abbrev ib (xs : List Int) : Obj := .cells (nums .i64 xs).toArray 3
abbrev sl (g n : Nat) : Value := .slice (some ⟨g, 0, none⟩) n n
abbrev grW (w : World) : World := (((((w.alloc (.cells #[.int .i64 1, .int .i64 2] 3)).alloc (.cells #[.int .i64 3] 3)).alloc (.cells #[.int .i64 3] 3)).alloc (.cells #[.int .i64 1] 3)).alloc (.cells #[.int .i64 0, .int .i64 9] 3)).alloc
  (.cells #[sl w.heap.size 2, sl (w.heap.size + 1) 1, sl (w.heap.size + 1 + 1) 1, sl (w.heap.size + 1 + 1 + 1) 1, sl (w.heap.size + 1 + 1 + 1 + 1) 2] 28)

theorem cell_of_blk {w : World} {g : Nat} {cs : Array Value} {t : TypeId} (h : w.heap[g]? = some (.cells cs t (0, 0))) (i : Nat) (v : Value) (hv : cs[i]? = some v) : w.cell? ⟨g, i, none⟩ = some v := by simp [World.cell?, h, hv]

theorem C_ints {w : World} {g : Nat} {xs : List Int} (h : ∀ (j : Nat) (x : Int), xs[j]? = some x → w.cell? ⟨g, j, none⟩ = some (.int .i64 x)) (hm : xs.length ≤ 9223372036854775807) : (Kd.int .i64).C w (some ⟨g, 0, none⟩) xs.length xs := by
  refine ⟨rfl, hm, fun _ => ⟨_, rfl, ?_⟩⟩
  intro j p hj
  refine ⟨[.int .i64 p], rfl, rfl, ?_⟩
  intro i u hi
  match i, hi with
  | 0, hi =>
    simp at hi
    subst hi
    rw [add_plain, show j * (Kd.int IntKind.i64).sz + 0 = j from by show j * 1 + 0 = j; omega]
    exact h j p hj

theorem C_rows {w : World} {g : Nat} {xs : List (List Int)} (h : ∀ (j : Nat) (x : List Int), xs[j]? = some x → ∃ b, w.cell? ⟨g, j, none⟩ = some (sl b x.length) ∧ (Kd.int .i64).C w (some ⟨b, 0, none⟩) x.length x) (hm : xs.length ≤ 9223372036854775807) : (Kd.slice 3 (Kd.int .i64)).C w (some ⟨g, 0, none⟩) xs.length xs := by
  refine ⟨rfl, hm, fun _ => ⟨_, rfl, ?_⟩⟩
  intro j p hj
  obtain ⟨b, hc, hC⟩ := h j p hj
  refine ⟨[sl b p.length], rfl, ⟨_, _, rfl, Nat.le_refl _, hC⟩, ?_⟩
  intro i u hi
  match i, hi with
  | 0, hi =>
    simp at hi
    subst hi
    rw [add_plain, show j * (Kd.slice 3 (Kd.int IntKind.i64)).sz + 0 = j from by show j * 1 + 0 = j; omega]
    exact hc

theorem C_blk {w : World} {g : Nat} {xs : List Int} (h : w.heap[g]? = some (ib xs)) (hm : xs.length ≤ 9223372036854775807) : (Kd.int .i64).C w (some ⟨g, 0, none⟩) xs.length xs :=
  C_ints (fun j x hj => by
    have hl := (List.getElem?_eq_some_iff.1 hj).1
    have := nb_cell h j hl
    rw [this]
    have e : rd xs j = x := by simp [rd, hj]
    rw [e]) hm

theorem gr_C (w : World) : (Kd.slice 3 (Kd.int .i64)).C (grW w) (some ⟨w.heap.size + 5, 0, none⟩) gr.length gr := by
  have hb : (grW w).heap[w.heap.size + 5]? = some (.cells #[sl w.heap.size 2, sl (w.heap.size + 1) 1, sl (w.heap.size + 1 + 1) 1, sl (w.heap.size + 1 + 1 + 1) 1, sl (w.heap.size + 1 + 1 + 1 + 1) 2] 28 (0, 0)) := by
    simp only [grW, heap_get, World.size_alloc]; (repeat (first | rw [if_pos trivial] | rw [if_pos (by omega)] | rw [if_neg (by omega)]))
  have h0 : (grW w).heap[w.heap.size]? = some (ib [1, 2]) := by simp only [grW, heap_get, World.size_alloc]; (repeat (first | rw [if_pos trivial] | rw [if_pos (by omega)] | rw [if_neg (by omega)])); rfl
  have h1 : (grW w).heap[w.heap.size + 1]? = some (ib [3]) := by simp only [grW, heap_get, World.size_alloc]; (repeat (first | rw [if_pos trivial] | rw [if_pos (by omega)] | rw [if_neg (by omega)])); rfl
  have h2 : (grW w).heap[w.heap.size + 1 + 1]? = some (ib [3]) := by simp only [grW, heap_get, World.size_alloc]; (repeat (first | rw [if_pos trivial] | rw [if_pos (by omega)] | rw [if_neg (by omega)])); rfl
  have h3 : (grW w).heap[w.heap.size + 1 + 1 + 1]? = some (ib [1]) := by simp only [grW, heap_get, World.size_alloc]; (repeat (first | rw [if_pos trivial] | rw [if_pos (by omega)] | rw [if_neg (by omega)])); rfl
  have h4 : (grW w).heap[w.heap.size + 1 + 1 + 1 + 1]? = some (ib [0, 9]) := by simp only [grW, heap_get, World.size_alloc]; (repeat (first | rw [if_pos trivial] | rw [if_pos (by omega)] | rw [if_neg (by omega)])); rfl
  refine C_rows ?_ (by decide)
  intro j x hj
  match j, hj with
  | 0, hj => cases hj; exact ⟨w.heap.size, cell_of_blk hb 0 _ rfl, C_blk h0 (by decide)⟩
  | 1, hj => cases hj; exact ⟨w.heap.size + 1, cell_of_blk hb 1 _ rfl, C_blk h1 (by decide)⟩
  | 2, hj => cases hj; exact ⟨w.heap.size + 1 + 1, cell_of_blk hb 2 _ rfl, C_blk h2 (by decide)⟩
  | 3, hj => cases hj; exact ⟨w.heap.size + 1 + 1 + 1, cell_of_blk hb 3 _ rfl, C_blk h3 (by decide)⟩
  | 4, hj => cases hj; exact ⟨w.heap.size + 1 + 1 + 1 + 1, cell_of_blk hb 4 _ rfl, C_blk h4 (by decide)⟩

set_option maxHeartbeats 1000000 in
theorem awake_any (w : World) : Calls Try.prog 10 #[] w (BoolPost w true) := by
  have H0 := Lib.hid (gr_C w)
  have HZ := Lib.hid (show Below w.heap.size w (grW w) from by
    exact ((((((Below.refl _ _).alloc (Nat.le_refl _) _).alloc (by simp) _).alloc (by simp; omega) _).alloc (by simp; omega) _).alloc (by simp; omega) _).alloc (by simp; omega) _)
  go_enter Try.func10, Try.ntmps10
  go_wp2_with fail
  refine (reach_any (grW w) gr _ 5 (by decide) H0.out (by decide)).mono ?_
  rintro e w1 ⟨v, rfl, hR, hB1⟩
  rw [gr_reach] at hR
  obtain ⟨A1, c1, rfl, hcell⟩ := bool_cell hR
  obtain ⟨ad, rfl, q3⟩ := hcell 3 (by decide)
  obtain ⟨ad', hq, q4⟩ := hcell 4 (by decide)
  obtain rfl := Option.some.inj hq
  have Q3 := Lib.hid (show w1.cell? (ad.add 3) = some (.bool true) from q3)
  have Q4 := Lib.hid (show w1.cell? (ad.add 4) = some (.bool false) from q4)
  have HB1 := Lib.hid hB1
  clear hR hcell q3 q4 hq hB1
  go_wp2_with fail
  refine (above_any w1 gr _ 5 (by decide) (Kd.C_below H0.out HB1.out) (by decide) gr_succs 50 _ gr_above).mono ?_
  rintro e w2 ⟨v2, rfl, hR2, hB2⟩
  obtain ⟨A2, c2, rfl, hc2, hC2⟩ := Kd.R_reads hR2
  have HC2 := Lib.hid hC2
  have HB2 := Lib.hid hB2
  have hs2 := hB2.size
  clear hR2 hC2 hB2
  go_wp2_with fail
  refine (PFlowReach.seedcornref26_List.calls 10 A2 c2 [-1, 0, 0, 0, -1] (some ⟨w2.heap.size, 0, none⟩) 5 [-1, 0, 0, 0, -1] true _ (Kd.C_alloc HC2.out _) hc2 (C_blk (heap_alloc_new _ _) (by decide)) (by decide) gr_l1).mono ?_
  rintro e w3 ⟨rfl, ⟨n3, hn3⟩⟩
  have HB3 := Lib.hid (show Below w1.heap.size w1 w3 by rw [hn3]; exact pw_below_drewN (HB2.out.alloc hs2 _) n3)
  clear hn3 HB2 HC2
  go_wp2_with fail
  refine (order_any w3 gr _ 5 (by decide) (Kd.C_below H0.out (below_then HB1.out HB1.out.size HB3.out)) (by decide)).mono ?_
  rintro e w4 ⟨v4, rfl, hR4, hB4⟩
  rw [gr_order] at hR4
  obtain ⟨A4, c4, rfl, hc4, hC4⟩ := Kd.R_reads hR4
  have HC4 := Lib.hid hC4
  have HB4 := Lib.hid (below_then HB3.out HB3.out.size hB4)
  have hs4 := HB4.out.size
  clear hR4 hC4 hB4
  go_wp2_with fail
  refine (PFlowReach.seedcornref26_List.calls 10 A4 c4 [0, 2, 1, 3] (some ⟨w4.heap.size, 0, none⟩) 4 [0, 2, 1, 3] true _ (Kd.C_alloc HC4.out _) hc4 (C_blk (heap_alloc_new _ _) (by decide)) (by decide) gr_l2).mono ?_
  rintro e w5 ⟨rfl, ⟨n5, hn5⟩⟩
  have HB5 := Lib.hid (show Below w1.heap.size w1 w5 by rw [hn5]; exact pw_below_drewN (HB4.out.alloc hs4 _) n5)
  have q3 : w5.cell? ⟨ad.block, ad.off + 3, none⟩ = some (.bool true) := pw_cell_below HB5.out Q3.out
  have q4 : w5.cell? ⟨ad.block, ad.off + 4, none⟩ = some (.bool false) := pw_cell_below HB5.out Q4.out
  clear hn5 HB4 HC4
  go_wp2_with fail
  refine (must_any w5 gr _ 5 (by decide) (Kd.C_below H0.out (below_then HB1.out HB1.out.size HB5.out)) (by decide) 0 3).mono ?_
  rw [gr_m1]
  rintro e w6 ⟨rfl, hB6⟩
  have HB6 := Lib.hid (below_then HB5.out HB5.out.size hB6)
  clear hB6 q3 q4
  go_wp2_with fail
  refine (must_any w6 gr _ 5 (by decide) (Kd.C_below H0.out (below_then HB1.out HB1.out.size HB6.out)) (by decide) 1 3).mono ?_
  rw [gr_m2]
  rintro e w7 ⟨rfl, hB7⟩
  have HB7 := Lib.hid (below_then HB6.out HB6.out.size hB7)
  clear hB7
  go_wp2_with fail
  refine (must_any w7 gr _ 5 (by decide) (Kd.C_below H0.out (below_then HB1.out HB1.out.size HB7.out)) (by decide) 0 4).mono ?_
  rw [gr_m3]
  rintro e w8 ⟨rfl, hB8⟩
  have HB8 := Lib.hid (below_then HB7.out HB7.out.size hB8)
  clear hB8
  go_wp2_with fail
  refine (order_any w8 [] none 0 (by decide) ⟨rfl, by decide, fun h => absurd h (by decide)⟩ (by decide)).mono ?_
  rintro e w9 ⟨v9, rfl, hR9, hB9⟩
  rw [nil_order] at hR9
  obtain ⟨A9, c9, rfl, hc9, hC9⟩ := Kd.R_reads hR9
  have HB9 := Lib.hid (below_then HB8.out HB8.out.size hB9)
  clear hR9 hC9 hB9
  go_wp2_with fail
  go_ret
  exact ⟨rfl, below_then HZ.out HZ.out.size (below_then HB1.out HB1.out.size HB9.out)⟩
end Go.Proofs.Ytnlapancooecjaa
