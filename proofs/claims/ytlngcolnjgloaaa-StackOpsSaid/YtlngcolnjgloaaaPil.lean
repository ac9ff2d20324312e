/- The contracts of stack.pile's push, pop and take, over words and over frames. Conditions: rows below 2^47 bytes. -/
import Derived.Test.YtlngcolnjgloaaaMem
import Derived.Lib.Hide
import Derived.WalkSpells
import Derived.WalkLawsBesides

import Derived.StillTailTactics
import Derived.IntWalk
namespace Go.Proofs.Ytlngcolnjgloaaa
open Go.RowKit Go.Proofs.YtlngcolnjgloaaaW.PrintWords PStackRuns
set_option linter.unusedVariables false
set_option linter.unusedSimpArgs false

def isRet (e : Ending) : Prop := e = .returned (.tuple #[])
theorem info22 : (Try.prog.info? 22).map (fun i => (i.zero, i.size, i.bytes)) = some (some (.int .u32 0), 1, 4) := by kernel_rfl
theorem info63 : (Try.prog.info? 63).map (fun i => (i.zero, i.size, i.bytes)) = some (some (.pointer none), 1, 8) := by kernel_rfl

/-- A row (of elements of type e) that a cell holds has been written over: what is left. -/
structure Rowed (w0 W W' : World) (base b o : Nat) (cs : Array Value) (t e : TypeId) (v v1 : Value) (ys : List Value) : Prop where
  bel : Below base w0 W'
  size : W.heap.size ≤ W'.heap.size
  same : ∀ i, i < W.heap.size → i ≠ b → some i ≠ v.ownBlock → W'.heap[i]? = W.heap[i]?
  blk : W'.heap[b]? = some (.cells (cs.setIfInBounds o v1) t (0, 0))
  own : W'.ownsRow base e 1 v1 ys.length ys
  at_ : v1.ownBlock = v.ownBlock ∨ ∃ k, v1.ownBlock = some k ∧ W.heap.size ≤ k

theorem rowed_mk {w0 W W1 : World} {base b o : Nat} {cs : Array Value} {t e : TypeId} {v v1 : Value} {ys : List Value} (hb : W.heap[b]? = some (.cells cs t (0, 0))) (hbb : base ≤ b) (hnb : some b ≠ v.ownBlock)
    (hB : Below base w0 W1) (hg : W.grownBy W1 v.ownBlock) (ho : W1.ownsRow base e 1 v1 ys.length ys) (hat : v1.ownBlock = v.ownBlock ∨ ∃ k, v1.ownBlock = some k ∧ W.heap.size ≤ k) :
    Rowed w0 W (W1.setCell ⟨b, o, none⟩ v1) base b o cs t e v v1 ys := by
  have hb1 : W1.heap[b]? = some (.cells cs t (0, 0)) := blk_grown hb hg hnb
  refine ⟨hB.setCell (p := ⟨b, o, none⟩) hbb v1, ?_, ?_, blk_set hb1 o v1, ?_, hat⟩
  · have := hg.size
    simpa using this
  · intro i hi hib hiv
    rw [Below.heap_setCell _ _ _ _ (by exact hib)]
    exact hg.block i hi hiv
  · refine own_setCell ho ?_ v1
    rcases hat with e1 | ⟨k, e1, hk⟩
    · rw [e1]; exact hnb
    · rw [e1]
      intro e2
      have : b = k := by simpa using e2
      have := blk_lt hb
      omega

set_option maxHeartbeats 400000 in
theorem push_word {w0 W : World} {base b o : Nat} {cs : Array Value} {t : TypeId} {v : Value} {l : List Int} (x : Int) (hb : W.heap[b]? = some (.cells cs t (0, 0))) (hc : cs[o]? = some v) (hbb : base ≤ b) (ht : t ≠ 22)
    (hown : W.ownsRow base 22 1 v l.length (nums .u32 l)) (hB : Below base w0 W) (hbase : base ≤ W.heap.size) (hl : (l.length + 1) * 4 ≤ 140737488355328) :
    Calls Try.prog 32 #[.pointer (some ⟨b, o, none⟩), .int .u32 x] W fun e w' => isRet e ∧ ∃ v1, Rowed w0 W w' base b o cs t 22 v v1 (nums .u32 (l ++ [x])) := by
  have hnb : some b ≠ v.ownBlock := own_ne hown hb (Ne.symm ht)
  have c1 : W.cell? ⟨b, o, none⟩ = some v := by rw [blk_cell hb]; exact hc
  have HB := Lib.hid hB
  have HO := Lib.hid hown
  have HBK := Lib.hid hb
  have HNB := Lib.hid hnb
  have HCS := Lib.hid hc
  have HBB := Lib.hid hbb
  clear hB hown hb hnb hc hbb ht
  go_enter Try.func32, Try.ntmps32
  go_wp2_with (at_builtin; refine print_append_num base rfl (.tmp 8) (.tmp 10) 40 22 .u32 4 rfl Try.underlying40 info22 (by decide) v l x rfl rfl HO.out HB.out hbase hl ?_)
  intro v1 W1 hown1 hB1 hg1 hat
  have hb1 := blk_grown HBK.out hg1 HNB.out
  have c2 : W1.cell? ⟨b, o, none⟩ = some v := by rw [blk_cell hb1]; exact HCS.out
  have f2 : W1.frozen? ⟨b, o, none⟩ = false := blk_frozen hb1 o
  obtain ⟨g, cap, rfl, _, _⟩ := hown1.form (by simp)
  have HR := Lib.hid (rowed_mk (o := o) (ys := nums .u32 (l ++ [x])) HBK.out HBB.out HNB.out hB1 hg1 (by rw [nums_length, List.length_append]; exact hown1) hat)
  clear hown1 hB1 hg1 hat hb1 c1
  go_wp2_with fail

  go_end0
  exact ⟨rfl, _, by simpa using HR.out⟩

set_option maxHeartbeats 400000 in
theorem push_frame {w0 W : World} {base b o : Nat} {cs : Array Value} {t : TypeId} {v : Value} {l : List Value} (fb : Nat) (hb : W.heap[b]? = some (.cells cs t (0, 0))) (hc : cs[o]? = some v) (hbb : base ≤ b) (ht : t ≠ 63)
    (hown : W.ownsRow base 63 1 v l.length l) (hB : Below base w0 W) (hbase : base ≤ W.heap.size) (hl : (l.length + 1) * 8 ≤ 140737488355328) :
    Calls Try.prog 31 #[.pointer (some ⟨b, o, none⟩), .pointer (some ⟨fb, 0, none⟩)] W fun e w' => isRet e ∧ ∃ v1, Rowed w0 W w' base b o cs t 63 v v1 (l ++ [.pointer (some ⟨fb, 0, none⟩)]) := by
  have hnb : some b ≠ v.ownBlock := own_ne hown hb (Ne.symm ht)
  have c1 : W.cell? ⟨b, o, none⟩ = some v := by rw [blk_cell hb]; exact hc
  have HB := Lib.hid hB
  have HO := Lib.hid hown
  have HBK := Lib.hid hb
  have HNB := Lib.hid hnb
  have HCS := Lib.hid hc
  have HBB := Lib.hid hbb
  clear hB hown hb hnb hc hbb ht
  go_enter Try.func31, Try.ntmps31
  go_wp2_with (at_builtin; refine print_append base rfl (.tmp 8) (.tmp 10) 57 63 (.pointer none) 8 rfl Try.underlying57 info63 rfl (by decide) v l (.pointer (some ⟨fb, 0, none⟩)) rfl rfl rfl HO.out HB.out hbase hl ?_)
  intro v1 W1 hown1 hB1 hg1 hat
  have hb1 := blk_grown HBK.out hg1 HNB.out
  have c2 : W1.cell? ⟨b, o, none⟩ = some v := by rw [blk_cell hb1]; exact HCS.out
  have f2 : W1.frozen? ⟨b, o, none⟩ = false := blk_frozen hb1 o
  obtain ⟨g, cap, rfl, _, _⟩ := hown1.form (by simp)
  have HR := Lib.hid (rowed_mk (o := o) (ys := l ++ [.pointer (some ⟨fb, 0, none⟩)]) HBK.out HBB.out HNB.out hB1 hg1 (by rw [List.length_append]; exact hown1) hat)
  clear hown1 hB1 hg1 hat hb1 c1
  go_wp2_with fail
  go_end0
  exact ⟨rfl, _, by simpa using HR.out⟩

theorem rowed_set {w0 W W1 : World} {base b o : Nat} {cs : Array Value} {t e : TypeId} {v v1 : Value} {ys : List Value} (hb : W.heap[b]? = some (.cells cs t (0, 0))) (hbb : base ≤ b) (hnb : some b ≠ v.ownBlock)
    (hB : Below base w0 W1) (hw : W1.heap = W.heap) (ho : W.ownsRow base e 1 v1 ys.length ys) (hat : v1.ownBlock = v.ownBlock) :
    Rowed w0 W (W1.setCell ⟨b, o, none⟩ v1) base b o cs t e v v1 ys := by
  have hb1 : W1.heap[b]? = some (.cells cs t (0, 0)) := by rw [hw]; exact hb
  have ho1 : W1.ownsRow base e 1 v1 ys.length ys := own_move ho (fun k _ => by rw [hw])
  refine ⟨hB.setCell (p := ⟨b, o, none⟩) hbb v1, ?_, ?_, blk_set hb1 o v1, ?_, .inl hat⟩
  · have : W1.heap.size = W.heap.size := by rw [hw]
    simp [this]
  · intro i hi hib hiv
    rw [Below.heap_setCell _ _ _ _ (by exact hib), hw]
  · exact own_setCell ho1 (by rw [hat]; exact hnb) v1

set_option maxHeartbeats 1000000 in
set_option maxRecDepth 100000 in
theorem pop_word {w0 W : World} {base b o : Nat} {cs : Array Value} {t : TypeId} {v : Value} {l : List Int} {x : Int} (hb : W.heap[b]? = some (.cells cs t (0, 0))) (hc : cs[o]? = some v) (hbb : base ≤ b) (ht : t ≠ 22)
    (hown : W.ownsRow base 22 1 v (l ++ [x]).length (nums .u32 (l ++ [x]))) (hB : Below base w0 W) :
    Calls Try.prog 33 #[.pointer (some ⟨b, o, none⟩)] W fun e w' => e = .returned (.int .u32 x) ∧ ∃ v1, Rowed w0 W w' base b o cs t 22 v v1 (nums .u32 l) := by
  have hnb : some b ≠ v.ownBlock := own_ne hown hb (Ne.symm ht)
  have c1 : W.cell? ⟨b, o, none⟩ = some v := by rw [blk_cell hb]; exact hc
  have f1 : W.frozen? ⟨b, o, none⟩ = false := blk_frozen hb o
  obtain ⟨g, cap, rfl, _, _⟩ := hown.form (by simp)
  have hcap := own_cap hown
  have hcap2 : cap ≤ 9223372036854775807 := by
    rcases hown.2 with ⟨h, _⟩ | ⟨_, _, _, h, _, _, _, hm, _⟩
    · cases h
    · cases h; simpa [maxLen] using hm
  obtain ⟨c2, _⟩ := own_at hown (l.length : Int) (by omega) (by simp only [List.length_append, List.length_singleton]; omega)
  have e0 : rd (l ++ [x]) (l.length : Int) = x := by simp [rd]
  rw [e0, Int.toNat_natCast] at c2
  have hown1 := own_take (m := l.length) hown (by simp)
  have e1 : (nums .u32 (l ++ [x])).take (l.length * 1) = nums .u32 l := by simp [nums]
  rw [e1] at hown1
  have hlen : (l ++ [x]).length = l.length + 1 := by simp
  rw [hlen] at c1 hcap
  obtain ⟨n, hn⟩ : ∃ n, n = l.length := ⟨_, rfl⟩
  have HR := Lib.hid (show ∀ W1 : World, W1.heap = W.heap → Below base w0 W1 → Rowed w0 W (W1.setCell ⟨b, o, none⟩ (.slice (some ⟨g, 0, none⟩) n cap)) base b o cs t 22 (.slice (some ⟨g, 0, none⟩) (l ++ [x]).length cap) (.slice (some ⟨g, 0, none⟩) n cap) (nums .u32 l) from by
    intro W1 hw hB1
    rw [hn]
    exact rowed_set hb hbb hnb hB1 hw (by rw [nums_length]; exact hown1) rfl)
  have HB := Lib.hid hB
  have HL := Lib.hid hlen
  rw [← hn] at c1 c2 hcap
  have b0 : (0 : Int) ≤ n := by omega
  have b1 : (n : Int) ≤ cap := by omega
  have b2 : (n : Int) + 1 ≤ cap := by omega
  have b3 : (cap : Int) ≤ 9223372036854775807 := by omega
  clear hb hc hbb ht hown hB hnb hown1 hlen e0 e1 hn hcap hcap2
  go_enter Try.func33, Try.ntmps33
  go_wp2_with fail
  go_quiet (fail)
  go_wp2_with fail
  obtain ⟨W3, hW3⟩ : ∃ W3 : World, W3 = { W.drewN nq with drawn := (W.drewN nq).drawn + 1 } := ⟨_, rfl⟩
  have HD := Lib.hid (show W3.heap = W.heap ∧ Below base w0 W3 from by rw [hW3]; exact ⟨rfl, below_drew (pw_below_drewN HB.out nq)⟩)
  have c4 : W3.cell? ⟨b, o, none⟩ = some (.slice (some ⟨g, 0, none⟩) (n + 1) cap) := by rw [hW3]; exact c1
  have f4 : W3.frozen? ⟨b, o, none⟩ = false := by rw [hW3]; exact f1
  refine wp_region_still_tail 12 (by kernel_rfl) (by kernel_rfl) ?_
  rw [← hW3]
  clear hW3 c1 c2 f1
  simp only [List.take_succ_cons, List.take_zero, List.drop_succ_cons, List.drop_zero]
  have wn : IntKind.i64.wrap (n : Int) = n := IntWalk.i64_in _ (by omega)
  repeat still_step
  clear wn
  refine wpStill_nil ?_
  go_wp2_with fail
  go_ret
  exact ⟨rfl, _, by have h := HR.out W3 HD.out.1 HD.out.2; simpa using h⟩

set_option maxHeartbeats 1000000 in
set_option maxRecDepth 100000 in
theorem pop_frame {w0 W : World} {base b o : Nat} {cs : Array Value} {t : TypeId} {v : Value} {l : List Value} {x : Nat} (hb : W.heap[b]? = some (.cells cs t (0, 0))) (hc : cs[o]? = some v) (hbb : base ≤ b) (ht : t ≠ 63)
    (hown : W.ownsRow base 63 1 v (l ++ [Value.pointer (some ⟨x, 0, none⟩)]).length (l ++ [.pointer (some ⟨x, 0, none⟩)])) (hB : Below base w0 W) :
    Calls Try.prog 52 #[.pointer (some ⟨b, o, none⟩)] W fun e w' => e = .returned (.pointer (some ⟨x, 0, none⟩)) ∧ ∃ v1, Rowed w0 W w' base b o cs t 63 v v1 l := by
  have hnb : some b ≠ v.ownBlock := own_ne hown hb (Ne.symm ht)
  have c1 : W.cell? ⟨b, o, none⟩ = some v := by rw [blk_cell hb]; exact hc
  have f1 : W.frozen? ⟨b, o, none⟩ = false := blk_frozen hb o
  obtain ⟨g, cap, rfl, _, _⟩ := hown.form (by simp)
  have hcap := own_cap hown
  have hcap2 : cap ≤ 9223372036854775807 := by
    rcases hown.2 with ⟨h, _⟩ | ⟨_, _, _, h, _, _, _, hm, _⟩
    · cases h
    · cases h; simpa [maxLen] using hm
  have c2 := hown.cells rfl l.length (.pointer (some ⟨x, 0, none⟩)) (by simp)
  rw [add_plain] at c2
  have hown1 := own_take (m := l.length) hown (by simp)
  have e1 : (l ++ [Value.pointer (some ⟨x, 0, none⟩)]).take (l.length * 1) = l := by simp
  rw [e1] at hown1
  have hlen : (l ++ [Value.pointer (some ⟨x, 0, none⟩)]).length = l.length + 1 := by simp
  rw [hlen] at c1 hcap
  obtain ⟨n, hn⟩ : ∃ n, n = l.length := ⟨_, rfl⟩
  have HR := Lib.hid (show ∀ W1 : World, W1.heap = W.heap → Below base w0 W1 → Rowed w0 W (W1.setCell ⟨b, o, none⟩ (.slice (some ⟨g, 0, none⟩) n cap)) base b o cs t 63 (.slice (some ⟨g, 0, none⟩) (l ++ [Value.pointer (some ⟨x, 0, none⟩)]).length cap) (.slice (some ⟨g, 0, none⟩) n cap) l from by
    intro W1 hw hB1
    rw [hn]
    exact rowed_set hb hbb hnb hB1 hw hown1 rfl)
  have HB := Lib.hid hB
  have HL := Lib.hid hlen
  rw [← hn] at c1 c2 hcap
  have b0 : (0 : Int) ≤ n := by omega
  have b1 : (n : Int) ≤ cap := by omega
  have b2 : (n : Int) + 1 ≤ cap := by omega
  have b3 : (cap : Int) ≤ 9223372036854775807 := by omega
  clear hb hc hbb ht hown hB hnb hown1 hlen e1 hn hcap hcap2
  go_enter Try.func52, Try.ntmps52
  go_wp2_with fail
  go_quiet (fail)
  go_wp2_with fail
  obtain ⟨W3, hW3⟩ : ∃ W3 : World, W3 = { W.drewN nq with drawn := (W.drewN nq).drawn + 1 } := ⟨_, rfl⟩
  have HD := Lib.hid (show W3.heap = W.heap ∧ Below base w0 W3 from by rw [hW3]; exact ⟨rfl, below_drew (pw_below_drewN HB.out nq)⟩)
  have c4 : W3.cell? ⟨b, o, none⟩ = some (.slice (some ⟨g, 0, none⟩) (n + 1) cap) := by rw [hW3]; exact c1
  have f4 : W3.frozen? ⟨b, o, none⟩ = false := by rw [hW3]; exact f1
  refine wp_region_still_tail 12 (by kernel_rfl) (by kernel_rfl) ?_
  rw [← hW3]
  clear hW3 c1 c2 f1
  simp only [List.take_succ_cons, List.take_zero, List.drop_succ_cons, List.drop_zero]
  have wn : IntKind.i64.wrap (n : Int) = n := IntWalk.i64_in _ (by omega)
  repeat still_step
  clear wn
  refine wpStill_nil ?_
  go_wp2_with fail
  go_ret
  exact ⟨rfl, _, by have h := HR.out W3 HD.out.1 HD.out.2; simpa using h⟩

set_option maxHeartbeats 1000000 in
theorem clone_word {W : World} {A : Option Addr} {n c : Nat} {args : List Int} (hr : ReadsInt W .u32 A n args) (hb : n * 4 ≤ 140737488355328) :
    Calls Try.prog 51 #[.slice A n c] W fun e w' => ∃ r, e = .returned r ∧ Below W.heap.size W w' ∧ w'.ownsRow W.heap.size 22 1 r n (nums .u32 args) := by
  have hl := hr.1
  have HR := Lib.hid hr
  have HL := Lib.hid hl
  clear hr hl
  rcases A with _ | ad
  · have h0 : n = 0 := by
      rcases Nat.eq_zero_or_pos n with h | h
      · exact h
      · obtain ⟨ad, e, _⟩ := HR.out.2.2 h
        cases e
    subst h0
    obtain rfl : args = [] := List.eq_nil_of_length_eq_zero HL.out
    have hq : ∀ w, (binOp .eql 40 (.slice none 0 c) (.slice none 0 0)).run Try.prog w = .ok (.bool true) w := fun w => Lib.run_eql_slice_nil w 40 22 none 0 c 0 0 Try.underlying40
    go_enter Try.func51, Try.ntmps51
    go_wp2_with fail
    go_ret
    exact ⟨_, rfl, Below.refl _ _, own_nil _ _ _ _⟩
  · have hq : ∀ w, (binOp .eql 40 (.slice (some ad) n c) (.slice none 0 0)).run Try.prog w = .ok (.bool false) w := fun w => Lib.run_eql_slice_nil w 40 22 (some ad) n c 0 0 Try.underlying40
    have HE := Lib.hid (show (W.alloc (.cells #[] 22)).ownsRow W.heap.size 22 1 (.slice (some ⟨W.heap.size, 0, none⟩) 0 0) ([] : List Int).length (nums .u32 []) from World.ownsRow_lit (base := W.heap.size) (e := 22) (size := 1) W #[] 0 (Nat.le_refl _) (by decide) rfl)
    have hB0 : Below W.heap.size W (W.alloc (.cells #[] 22)) := (Below.refl _ _).alloc (Nat.le_refl _) _
    have HB0 := Lib.hid hB0
    clear hB0
    go_enter Try.func51, Try.ntmps51
    go_wp2_with (at_builtin; refine print_append_row W.heap.size rfl (.tmp 5) (.tmp 6) 40 22 .u32 4 rfl Try.underlying40 info22 (by decide) (.slice (some ⟨W.heap.size, 0, none⟩) 0 0) [] args (some ad) n c rfl rfl HE.out (HR.out.below HB0.out) HB0.out HB0.out.size (by simpa using hb) ?_)
    intro v1 w1 hown1 hB1 _ _
    go_wp2_with fail
    go_ret
    exact ⟨_, rfl, hB1, by simpa [HL.out] using hown1⟩

set_option maxHeartbeats 2000000 in
set_option maxRecDepth 100000 in
theorem take_word {w0 W : World} {base b o : Nat} {cs : Array Value} {t : TypeId} {v : Value} {keep args : List Int} (hb : W.heap[b]? = some (.cells cs t (0, 0))) (hc : cs[o]? = some v) (hbb : base ≤ b) (ht : t ≠ 22)
    (hown : W.ownsRow base 22 1 v (keep ++ args).length (nums .u32 (keep ++ args))) (hB : Below base w0 W) (hbase : base ≤ W.heap.size) (hl : (keep ++ args).length * 4 ≤ 140737488355328) :
    Calls Try.prog 37 #[.pointer (some ⟨b, o, none⟩), .int .i64 args.length] W fun e w' => ∃ r, e = .returned r ∧ (∃ v1, Rowed w0 W w' base b o cs t 22 v v1 (nums .u32 keep)) ∧ w'.ownsRow W.heap.size 22 1 r args.length (nums .u32 args) := by
  have hnb : some b ≠ v.ownBlock := own_ne hown hb (Ne.symm ht)
  have c1 : W.cell? ⟨b, o, none⟩ = some v := by rw [blk_cell hb]; exact hc
  obtain ⟨A, cap, rfl, hR⟩ := own_reads hown
  have hcap := own_cap hown
  have hcap2 : cap ≤ 9223372036854775807 := by
    rcases hown.2 with ⟨h, _⟩ | ⟨_, _, _, h, _, _, _, hm, _⟩
    · injection h with h1 h2 h3; omega
    · cases h; simpa [maxLen] using hm
  obtain ⟨i0, hi0, _⟩ := Option.map_eq_some_iff.1 info22
  have hsz : i0.size = 1 := by
    have h := info22
    rw [hi0] at h
    simp at h
    exact h.2.1
  obtain ⟨A1, hcut, hA1⟩ := print_cut (P := Try.prog) 40 22 .i64 Try.underlying40 hi0 hsz A (keep ++ args).length cap keep.length (by simp)
  have hRA := hA1 W .u32 (keep ++ args) hcap hR
  rw [List.drop_left] at hRA
  have hlen : (keep ++ args).length = keep.length + args.length := by simp
  have e1 : (nums .u32 (keep ++ args)).take (keep.length * 1) = nums .u32 keep := by simp [nums]
  have hown1 := own_take (m := keep.length) hown (by simp)
  rw [e1] at hown1
  rw [hlen] at c1 hcap hcut hRA hl
  obtain ⟨n, hn⟩ : ∃ n, n = keep.length := ⟨_, rfl⟩
  obtain ⟨k, hk⟩ : ∃ k, k = args.length := ⟨_, rfl⟩
  rw [← hn, ← hk] at c1 hcap hcut hRA hl
  have e2 : n + k - n = k := by omega
  rw [e2] at hcut hRA
  have HR := Lib.hid (show ∀ W1 : World, Below W.heap.size W W1 → Rowed w0 W (W1.setCell ⟨b, o, none⟩ (.slice A n cap)) base b o cs t 22 (.slice A (keep ++ args).length cap) (.slice A n cap) (nums .u32 keep) from by
    intro W1 hB1
    have hb1 := blk_below hb hB1
    rw [hn]
    refine ⟨(below_then hB hbase hB1).setCell (p := ⟨b, o, none⟩) hbb _, ?_, ?_, blk_set hb1 o _, ?_, .inl ?_⟩
    · have := hB1.size; simpa using this
    · intro i hi hib _
      rw [Below.heap_setCell _ _ _ _ (by exact hib)]
      exact hB1.block i hi
    · refine own_setCell (pw_own_below (by rw [nums_length]; exact hown1) hB1) ?_ _
      cases A <;> exact hnb
    · cases A <;> rfl)
  have HB := Lib.hid hB
  have HRA := Lib.hid hRA
  have HBK := Lib.hid hb
  have HCS := Lib.hid hc
  have HN := Lib.hid (And.intro hn hk)
  have HL4 := Lib.hid hl
  have b0 : (0 : Int) ≤ n := by omega
  have b1 : (n : Int) ≤ cap := by omega
  have b2 : (n : Int) + k ≤ cap := by omega
  have b3 : (cap : Int) ≤ 9223372036854775807 := by omega
  have b4 : (n : Int) ≤ n + k := by omega
  have b5 : (0 : Int) ≤ k := by omega
  rw [← hk]
  clear hb hbb ht hown hB hnb hown1 hlen e1 e2 hn hk hcap hcap2 hR hRA hA1 hi0 hl hc
  go_enter Try.func37, Try.ntmps37
  go_wp2_with fail
  have wn : IntKind.i64.wrap (n : Int) = n := IntWalk.i64_in _ (by omega)
  refine wp_region_held_drew (S := fun w' => w'.cell? ⟨b, o, none⟩ = some (.slice A (n + k) cap)) (by kernel_rfl) (by simpa using c1) (fun hSd => ?_)
  refine wpAnyH_take (i := 0) (v := ?_) rfl (by kernel_rfl) (by kernel_rfl) (by kernel_rfl) (fun _ _ _ h => h) (Or.inl ⟨by rfl, ?_⟩) (by assumption) ?_
  rotate_left
  · (intro w hSw; (try dsimp only at hSw); go_simp; try with_reducible rfl)
  (try simp only [List.getElem_toArray, List.getElem_cons_succ, List.getElem_cons_zero, Act.put, List.setIfInBounds_toArray, List.set_cons_zero, List.set_cons_succ])
  refine wpAnyH_take (i := 1) (v := ?_) rfl (by kernel_rfl) (by kernel_rfl) (by kernel_rfl) (fun _ _ _ h => h) (Or.inl ⟨by rfl, ?_⟩) (by assumption) ?_
  rotate_left
  · (intro w hSw; (try dsimp only at hSw); go_simp; try with_reducible rfl)
  (try simp only [List.getElem_toArray, List.getElem_cons_succ, List.getElem_cons_zero, Act.put, List.setIfInBounds_toArray, List.set_cons_zero, List.set_cons_succ])
  refine wpAnyH_take (i := 2) (v := ?_) rfl (by kernel_rfl) (by kernel_rfl) (by kernel_rfl) (fun _ _ _ h => h) (Or.inl ⟨by rfl, ?_⟩) (by assumption) ?_
  rotate_left
  · (intro w hSw; (try dsimp only at hSw); go_simp; try with_reducible rfl)
  (try simp only [List.getElem_toArray, List.getElem_cons_succ, List.getElem_cons_zero, Act.put, List.setIfInBounds_toArray, List.set_cons_zero, List.set_cons_succ])
  refine wpAnyH_take (i := 3) (v := ?_) rfl (by kernel_rfl) (by kernel_rfl) (by kernel_rfl) (fun _ _ _ h => h) (Or.inl ⟨by rfl, ?_⟩) (by assumption) ?_
  rotate_left
  · (intro w hSw; (try dsimp only at hSw); go_simp; try with_reducible rfl)
  (try simp only [List.getElem_toArray, List.getElem_cons_succ, List.getElem_cons_zero, Act.put, List.setIfInBounds_toArray, List.set_cons_zero, List.set_cons_succ])
  refine wpAnyH_take (i := 4) (v := ?_) rfl (by kernel_rfl) (by kernel_rfl) (by kernel_rfl) (fun _ _ _ h => h) (Or.inl ⟨by rfl, ?_⟩) (by assumption) ?_
  rotate_left
  · (intro w hSw; (try dsimp only at hSw); go_simp; try with_reducible rfl)
  (try simp only [List.getElem_toArray, List.getElem_cons_succ, List.getElem_cons_zero, Act.put, List.setIfInBounds_toArray, List.set_cons_zero, List.set_cons_succ])
  refine wpAnyH_take (i := 5) (v := ?_) rfl (by kernel_rfl) (by kernel_rfl) (by kernel_rfl) (fun _ _ _ h => h) (Or.inl ⟨by rfl, ?_⟩) (by assumption) ?_
  rotate_left
  · (intro w hSw; (try dsimp only at hSw); go_simp; try with_reducible rfl)
  (try simp only [List.getElem_toArray, List.getElem_cons_succ, List.getElem_cons_zero, Act.put, List.setIfInBounds_toArray, List.set_cons_zero, List.set_cons_succ])
  refine wpAnyH_take (i := 6) (v := ?_) rfl (by kernel_rfl) (by kernel_rfl) (by kernel_rfl) (fun _ _ _ h => h) (Or.inl ⟨by rfl, ?_⟩) (by assumption) ?_
  rotate_left
  · (intro w hSw; (try dsimp only at hSw); go_simp; try with_reducible rfl)
  (try simp only [List.getElem_toArray, List.getElem_cons_succ, List.getElem_cons_zero, Act.put, List.setIfInBounds_toArray, List.set_cons_zero, List.set_cons_succ])
  refine wpAnyH_take (i := 7) (v := ?_) rfl (by kernel_rfl) (by kernel_rfl) (by kernel_rfl) (fun _ _ _ h => h) (Or.inl ⟨by rfl, ?_⟩) (by assumption) ?_
  rotate_left
  · (intro w hSw; (try dsimp only at hSw); go_simp; try with_reducible rfl)
  (try simp only [List.getElem_toArray, List.getElem_cons_succ, List.getElem_cons_zero, Act.put, List.setIfInBounds_toArray, List.set_cons_zero, List.set_cons_succ])
  refine wpAnyH_take (i := 8) (v := ?_) rfl (by kernel_rfl) (by kernel_rfl) (by kernel_rfl) (fun _ _ _ h => h) (Or.inl ⟨by rfl, ?_⟩) (by assumption) ?_
  rotate_left
  · (intro w hSw; (try dsimp only at hSw); go_simp; try with_reducible rfl)
  (try simp only [List.getElem_toArray, List.getElem_cons_succ, List.getElem_cons_zero, Act.put, List.setIfInBounds_toArray, List.set_cons_zero, List.set_cons_succ])
  refine wpAnyH_take (i := 9) (v := ?_) rfl (by kernel_rfl) (by kernel_rfl) (by kernel_rfl) (fun _ _ _ h => h) (Or.inl ⟨by rfl, ?_⟩) (by assumption) ?_
  rotate_left
  · (intro w hSw; (try dsimp only at hSw); go_simp; try with_reducible rfl)
  (try simp only [List.getElem_toArray, List.getElem_cons_succ, List.getElem_cons_zero, Act.put, List.setIfInBounds_toArray, List.set_cons_zero, List.set_cons_succ])
  refine wpAnyH_take (i := 10) (v := ?_) rfl (by kernel_rfl) (by kernel_rfl) (by kernel_rfl) (fun _ _ _ h => h) (Or.inl ⟨by rfl, ?_⟩) (by assumption) ?_
  rotate_left
  · (intro w hSw; (try dsimp only at hSw); go_simp; try with_reducible rfl)
  (try simp only [List.getElem_toArray, List.getElem_cons_succ, List.getElem_cons_zero, Act.put, List.setIfInBounds_toArray, List.set_cons_zero, List.set_cons_succ])
  refine wpAnyH_take (i := 11) (v := ?_) rfl (by kernel_rfl) (by kernel_rfl) (by kernel_rfl) (fun _ _ _ h => h) (Or.inl ⟨by rfl, ?_⟩) (by assumption) ?_
  rotate_left
  · (intro w hSw; (try dsimp only at hSw); go_simp; try with_reducible rfl)
  (try simp only [List.getElem_toArray, List.getElem_cons_succ, List.getElem_cons_zero, Act.put, List.setIfInBounds_toArray, List.set_cons_zero, List.set_cons_succ])
  refine wpAnyH_ready (rs := [12]) (by kernel_rfl) (by simp) ?_
  refine AllReadyH.cons rfl (fun K hK => ?_) AllReadyH.nil
  go_simp
  refine (clone_word (W := W.drew) HRA.out (by have := HL4.out; omega)).mono ?_
  rintro e w1 ⟨r, rfl, hB1, hO1⟩
  have hB1' : Below W.heap.size W w1 := ⟨hB1.os, hB1.tape, hB1.output, hB1.size, hB1.block⟩
  have hb1 := blk_below HBK.out hB1'
  have c2 : w1.cell? ⟨b, o, none⟩ = some (.slice A (n + k) cap) := pw_cell_below hB1' c1
  go_wp2_with fail
  refine hK.out _ _ c2 (fun hSe => ?_)
  clear hK K
  (try simp only [List.getElem_toArray, List.getElem_cons_succ, List.getElem_cons_zero, Act.put, List.setIfInBounds_toArray, List.set_cons_zero, List.set_cons_succ])
  refine wpAnyH_take (i := 13) (v := ?_) rfl (by kernel_rfl) (by kernel_rfl) (by kernel_rfl) (fun _ _ _ h => h) (Or.inl ⟨by rfl, ?_⟩) (by assumption) ?_
  rotate_left
  · (intro w hSw; (try dsimp only at hSw); go_simp; try with_reducible rfl)
  (try simp only [List.getElem_toArray, List.getElem_cons_succ, List.getElem_cons_zero, Act.put, List.setIfInBounds_toArray, List.set_cons_zero, List.set_cons_succ])
  refine wpAnyH_done (by kernel_rfl) ?_ _
  go_wp2_with fail
  obtain ⟨W3, hW3⟩ : ∃ W3 : World, W3 = { w1 with drawn := w1.drawn + 1 } := ⟨_, rfl⟩
  have B3 := Lib.hid (show Below W.heap.size W W3 from by rw [hW3]; exact below_drew hB1')
  have O3 := Lib.hid (show W3.ownsRow W.heap.size 22 1 r k (nums .u32 args) from by rw [hW3]; exact hO1)
  have HBK3 := Lib.hid (show W3.heap[b]? = some (.cells cs t (0, 0)) from by rw [hW3]; exact hb1)
  have c4 : W3.cell? ⟨b, o, none⟩ = some (.slice A (n + k) cap) := by rw [hW3]; exact c2
  have f4 : W3.frozen? ⟨b, o, none⟩ = false := blk_frozen HBK3.out o
  refine wp_region_still_tail 13 (by kernel_rfl) (by kernel_rfl) ?_
  rw [← hW3]
  clear hW3 c1 c2 hb1 hB1 hB1' hO1 hSe hSd hcut
  simp only [List.take_succ_cons, List.take_zero, List.drop_succ_cons, List.drop_zero]
  repeat still_step
  clear wn
  refine wpStill_nil ?_
  go_wp2_with fail
  go_ret
  refine ⟨r, rfl, ⟨_, HR.out W3 B3.out⟩, own_setCell O3.out ?_ _⟩
  intro e
  have h1 := own_base O3.out b e.symm
  have h2 := blk_lt HBK.out

  omega
end Go.Proofs.Ytlngcolnjgloaaa
