/- StackMore is true at any input. Conditions: none. -/
import Derived.Test.YtlngcolnjgloaaaOps
import Derived.Test.YtlngcolnjgloaaaAwk
import Derived.Test.YtlngcolnjgloaaaOpw
namespace Go.Proofs.Ytlngcolnjgloaaa
set_option linter.unusedVariables false
set_option linter.unusedSimpArgs false
open Go.RowKit Go.Proofs.YtlngcolnjgloaaaW.PrintWords PStackRuns

theorem str_size (l : List Int) : (strOfNums l).size = l.length := by
  unfold strOfNums
  simp [ByteArray.size]
theorem str_cut (a b : List Int) : (strOfNums (a ++ b)).extract 0 (strOfNums a).size = strOfNums a := by
  rw [str_size]
  unfold strOfNums
  apply ByteArray.ext
  simp [ByteArray.data_extract]

set_option maxHeartbeats 4000000 in
set_option maxRecDepth 100000 in
theorem more_row (W : World) {cs0 : Array Value} (x : Int × List S28) (hK : kS.K W x (Value.agg cs0).cells.toList) (ok : okS x) (inp : ByteArray) (hinp : inp.size ≤ 140737488351232) (l : List Int) (hl : l.length = 2) (okl : ∀ y ∈ l, (Lit.int .u8 y).wf = true) :
    Calls Try.prog 5 #[.agg cs0, .string inp, .agg (l.map (Value.int .u8)).toArray] W (YesPost W) := by
  obtain ⟨A, c, rfl, hc, hC⟩ := S_in hK
  obtain ⟨sw, fs⟩ := x
  dsimp only at hc hC ⊢
  obtain ⟨n, d, rfl⟩ : ∃ n d, l = [n, d] := by
    match l, hl with
    | [n, d], _ => exact ⟨n, d, rfl⟩
  obtain ⟨n0, n1⟩ : 0 ≤ n ∧ n ≤ 255 := opw_bounds (okl n (by simp))
  obtain ⟨d0, d1⟩ : 0 ≤ d ∧ d ≤ 255 := opw_bounds (okl d (by simp))
  clear hK okl hl
  show Calls Try.prog 5 #[.agg #[.int .i64 sw, .slice A fs.length c], .string inp, .agg #[.int .u8 n, .int .u8 d]] W (YesPost W)
  obtain ⟨V, hV⟩ : ∃ V, V = (W.alloc (.cells #[.int .i64 sw, .slice A fs.length c] 31)).alloc (.cells #[.int .u8 n, .int .u8 d] 44) := ⟨_, rfl⟩
  have hBV : Below W.heap.size W V := by rw [hV]; exact ((Below.refl _ _).alloc (Nat.le_refl _) _).alloc (by simp) _
  have hb0 : V.heap[W.heap.size]? = some (.cells #[.int .i64 sw, .slice A fs.length c] 31 (0, 0)) := by rw [hV]; exact blk_alloc (heap_alloc_new W _) _
  have hb1 : V.heap[W.heap.size + 1]? = some (.cells #[.int .u8 n, .int .u8 d] 44 (0, 0)) := by
    rw [hV]
    exact (congrArg (fun k => (World.alloc _ _).heap[k]?) (by simp)).trans (heap_alloc_new (W.alloc _) _)
  have HC := Lib.hid (Kd.C_below hC hBV)
  have HOK := Lib.hid ok
  have EV := Lib.hid hV
  have HBV := Lib.hid hBV
  have HX := Lib.hid (And.intro hb0 hb1)
  -- what lies in any later world
  have HW := Lib.hid (show ∀ w', Below V.heap.size V w' → k28.C w' A fs.length fs ∧ Below W.heap.size W w' ∧ w'.cell? ⟨W.heap.size, 0, none⟩ = some (.int .i64 sw) ∧ w'.cell? ⟨W.heap.size, 1, none⟩ = some (.slice A fs.length c) ∧ w'.cell? ⟨W.heap.size + 1, 0, none⟩ = some (.int .u8 n) ∧ w'.cell? ⟨W.heap.size + 1, 1, none⟩ = some (.int .u8 d) from fun w' h => by
    have g0 := blk_below hb0 h
    have g1 := blk_below hb1 h
    refine ⟨Kd.C_below (Kd.C_below hC hBV) h, below_then hBV hBV.size h, ?_, ?_, ?_, ?_⟩
    · rw [blk_cell g0]; rfl
    · rw [blk_cell g0]; rfl
    · rw [blk_cell g1]; rfl
    · rw [blk_cell g1]; rfl)
  clear hC ok hV hBV hb0 hb1
  go_enter Try.func5, Try.ntmps5
  go_upto_region 1 with (fail)
  rw [← EV.out]
  go_upto_region 3 with (go_at_call 9; refine (awake_any V).mono ?_; rintro e w1 ⟨rfl, hb1⟩; have HB1 := Lib.hid hb1; clear hb1)
  obtain ⟨_, _, x0, x1, _, _⟩ := HW.out w1 HB1.out
  by_cases hsw : 4000 < sw
  · have q0 : decide ((4000 : Int) < sw) = true := decide_eq_true hsw
    go_wp2_with (go_at_call 14; refine (few_any w1 sw A fs c (HW.out w1 HB1.out).1 hc HOK.out 200).mono ?_; rintro e w2 ⟨r, rfl, hr, hb2⟩; have HB2 := Lib.hid (below_then HB1.out HB1.out.size hb2); clear x0 x1; obtain ⟨_, _, x0, x1, _, _⟩ := HW.out w2 HB2.out; cases r)
    all_goals (go_ret; exact ⟨rfl, (HW.out w2 HB2.out).2.1⟩)
  by_cases hin : 100 < inp.size
  · have q0 : decide ((4000 : Int) < sw) = false := decide_eq_false hsw
    have q1 : decide ((100 : Int) < (inp.size : Int)) = true := decide_eq_true (by omega)
    go_wp2_with (go_at_call 14; refine (few_any w1 sw A fs c (HW.out w1 HB1.out).1 hc HOK.out 200).mono ?_; rintro e w2 ⟨r, rfl, hr, hb2⟩; have HB2 := Lib.hid (below_then HB1.out HB1.out.size hb2); clear x0 x1; obtain ⟨_, _, x0, x1, _, _⟩ := HW.out w2 HB2.out; cases r)
    all_goals (go_ret; exact ⟨rfl, (HW.out w2 HB2.out).2.1⟩)
  have q0 : decide ((4000 : Int) < sw) = false := decide_eq_false hsw
  have q1 : decide ((100 : Int) < (inp.size : Int)) = false := decide_eq_false (by omega)
  go_wp2_with (first | (go_at_call 14; refine (few_any w1 sw A fs c (HW.out w1 HB1.out).1 hc HOK.out 200).mono ?_; rintro e w2 ⟨r, rfl, hr, hb2⟩; have HB2 := Lib.hid (below_then HB1.out HB1.out.size hb2); clear x0 x1; obtain ⟨_, _, x0, x1, _, _⟩ := HW.out w2 HB2.out; cases r) | (go_at_call 15; refine (rrt_any w2 sw A fs c (HW.out w2 HB2.out).1 hc (fun f hf => by have := (show fs.length ≤ 70 ∧ ∀ f : Nat, f < fs.length → ((rd_T28 fs (f : Int)).f4.length : Int) ≤ 200 by first | exact hr rfl | exact hr trivial | exact hr).2 f hf; omega)).mono ?_; rintro e w3 ⟨r3, rfl, hr3, hb3⟩; have HB3 := Lib.hid (below_then HB2.out HB2.out.size hb3); clear x0 x1; obtain ⟨_, _, x0, x1, y0, y1⟩ := HW.out w3 HB3.out; cases r3))
  · go_ret
    exact ⟨rfl, (HW.out w2 HB2.out).2.1⟩
  · go_ret
    exact ⟨rfl, (HW.out w3 HB3.out).2.1⟩
  · have hrp : rightP sw fs := by first | exact hr3 rfl | exact hr3 trivial | exact hr3
    have hP := prg_of HOK.out hrp
    have hs0 := hrp.1
    have hs1 := hrp.2.1
    have hfl := hrp.2.2.1
    clear hr hr3 hrp hb2 hb3
    obtain ⟨m, rfl⟩ : ∃ m : Nat, sw = (m : Int) := ⟨sw.toNat, (Int.toNat_of_nonneg hs0).symm⟩
    rw [Int.toNat_natCast] at hP
    obtain ⟨e1, o1, t1, hr1⟩ := run_total hP inp n 1000 (by omega) (by omega)
    obtain ⟨e2, o2, t2, hr2⟩ := run_total hP inp (n + d) 1000 (by omega) (by omega)
    have hmore := run_more hP inp n (n + d) n0 (by omega) 1000 e1 e2 o1 o2 t1 t2 hr1 hr2
    have HR1 := Lib.hid hr1
    have HR2 := Lib.hid hr2
    have HM := Lib.hid hmore
    clear hr1 hr2 hmore hP
    have hnd : IntKind.i64.wrap (n + d) = n + d := IntWalk.i64_in _ (by omega)
    go_upto_region 7 with (go_at_call 10; refine (run_any w3 m _ c fs (HW.out w3 HB3.out).1 (by omega) inp n 1000 (by decide) e1 o1 t1 HR1.out (by omega)).mono ?_; rintro e w4 ⟨rfl, hb4⟩; have HB4 := Lib.hid (below_then HB3.out HB3.out.size hb4); clear hb4 x0 x1 y0 y1)
    obtain ⟨V1, hV1⟩ : ∃ V1, V1 = w4.alloc (.cells #[.int .i64 e1, .string (strOfNums o1), .int .i64 t1] 33) := ⟨_, rfl⟩
    rw [← hV1]
    have hB : Below w4.heap.size w4 V1 := by rw [hV1]; exact (Below.refl _ _).alloc (Nat.le_refl _) _
    have h1 : V1.heap[w4.heap.size]? = some (.cells #[.int .i64 e1, .string (strOfNums o1), .int .i64 t1] 33 (0, 0)) := by rw [hV1]; exact heap_alloc_new _ _
    have HB5 := Lib.hid (below_then HB4.out HB4.out.size hB)
    have HY := Lib.hid h1
    clear hV1 hB h1
    obtain ⟨hC5, _, x0, x1, y0, y1⟩ := HW.out V1 HB5.out
    go_upto_region 8 with (go_at_call 10; refine (run_any V1 m _ c fs hC5 (by omega) inp (n + d) 1000 (by decide) e2 o2 t2 HR2.out (by omega)).mono ?_; rintro e w5 ⟨rfl, hb5⟩; have HY5 := Lib.hid (blk_below HY.out hb5); have HB6 := Lib.hid (below_then HB5.out HB5.out.size hb5); clear hb5 x0 x1 y0 y1)
    obtain ⟨V2, hV2⟩ : ∃ V2, V2 = w5.alloc (.cells #[.int .i64 e2, .string (strOfNums o2), .int .i64 t2] 33) := ⟨_, rfl⟩
    rw [← hV2]
    have hB : Below w5.heap.size w5 V2 := by rw [hV2]; exact (Below.refl _ _).alloc (Nat.le_refl _) _
    have h2 : V2.heap[w5.heap.size]? = some (.cells #[.int .i64 e2, .string (strOfNums o2), .int .i64 t2] 33 (0, 0)) := by rw [hV2]; exact heap_alloc_new _ _
    have h1 := blk_below HY5.out hB
    have HB7 := Lib.hid (HW.out V2 (below_then HB6.out HB6.out.size hB)).2.1
    clear hV2 hB HY HY5 hC5
    have x0 : V2.cell? ⟨w4.heap.size, 0, none⟩ = some (.int .i64 e1) := by rw [blk_cell h1]; rfl
    have x1 : V2.cell? ⟨w4.heap.size, 1, none⟩ = some (.string (strOfNums o1)) := by rw [blk_cell h1]; rfl
    have x2 : V2.cell? ⟨w4.heap.size, 2, none⟩ = some (.int .i64 t1) := by rw [blk_cell h1]; rfl
    have y0 : V2.cell? ⟨w5.heap.size, 0, none⟩ = some (.int .i64 e2) := by rw [blk_cell h2]; rfl
    have y1 : V2.cell? ⟨w5.heap.size, 1, none⟩ = some (.string (strOfNums o2)) := by rw [blk_cell h2]; rfl
    have y2 : V2.cell? ⟨w5.heap.size, 2, none⟩ = some (.int .i64 t2) := by rw [blk_cell h2]; rfl
    clear h1 h2
    by_cases he : e1 = 5
    · obtain ⟨m1, m2, s, m3⟩ := HM.out.2 he
      subst he
      subst m3
      have hsz1 := str_size o1
      have hsz2 := str_size (o1 ++ s)
      have hcut := str_cut o1 s
      generalize strOfNums o1 = S1 at *
      generalize strOfNums (o1 ++ s) = S2 at *
      have z0 : ((t1 : Int) == n) = true := by simpa using m1
      have z1 : decide (n ≤ (t2 : Int)) = true := decide_eq_true (by omega)
      have z2 : decide ((S1.size : Int) ≤ (S2.size : Int)) = true := decide_eq_true (by rw [hsz1, hsz2, List.length_append]; omega)
      have z3 : (S1.size : Int) ≤ (S2.size : Int) := by rw [hsz1, hsz2, List.length_append]; omega
      have HCUT := Lib.hid hcut
      clear hcut hsz1 hsz2
      go_upto_region 10 with (fail)
      go_quiet (fail)
      go_wp2_with fail
      go_ret
      refine ⟨?_, pw_below_drewN HB7.out _⟩
      show Ending.returned (Value.bool ((S2.extract 0 S1.size).toList == S1.toList)) = _
      rw [HCUT.out]
      simp
    · obtain ⟨rfl, rfl, rfl, m4⟩ := HM.out.1 he
      have z0 : (e2 == 5) = false := by simpa using he
      have z1 : (e2 != 5) = true := by simpa using he
      have z2 : decide ((t2 : Int) ≤ n) = true := decide_eq_true m4
      go_wp2_with fail
      go_ret
      exact ⟨rfl, HB7.out⟩
end Go.Proofs.Ytlngcolnjgloaaa
