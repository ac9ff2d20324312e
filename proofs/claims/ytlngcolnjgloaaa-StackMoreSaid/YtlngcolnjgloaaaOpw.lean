/- StackOps is true at any input. Conditions: none. -/
import Derived.Test.YtlngcolnjgloaaaAwk
import Derived.Test.YtlngcolnjgloaaaOpp
namespace Go.Proofs.Ytlngcolnjgloaaa
set_option linter.unusedVariables false
set_option linter.unusedSimpArgs false
open Go.RowKit Go.Proofs.YtlngcolnjgloaaaW.PrintWords PStackRuns

theorem opw_bounds {k : IntKind} {y : Int} (h : (Lit.int k y).wf = true) : k.min ≤ y ∧ y ≤ k.max := by
  simpa only [Lit.wf, Bool.and_eq_true, decide_eq_true_eq] using h

set_option maxHeartbeats 4000000 in
set_option maxRecDepth 100000 in
theorem opp_row (W : World) (op : Int) (hop : (Lit.int .u8 op).wf = true) (a : Int) (ha : (Lit.int .u32 a).wf = true) (b : Int) (hb : (Lit.int .u32 b).wf = true) : Calls Try.prog 3 #[.int .u8 op, .int .u32 a, .int .u32 b] W (YesPost W) := by
  obtain ⟨s0, s1⟩ : 0 ≤ op ∧ op ≤ 255 := opw_bounds hop
  obtain ⟨a0, a1⟩ : 0 ≤ a ∧ a ≤ 4294967295 := opw_bounds ha
  obtain ⟨b0, b1⟩ : 0 ≤ b ∧ b ≤ 4294967295 := opw_bounds hb
  obtain ⟨k, hk⟩ : ∃ k : Int, 4 + op % 12 = k := ⟨_, rfl⟩
  have k0 : 4 ≤ k := by omega
  have k1 : k ≤ 15 := by omega
  obtain ⟨v, e, hv, v0, v1⟩ := apply_some k a b k0 k1 a0 (by omega) b0 (by omega)
  obtain ⟨e1, o1, t1, hr1, hr3, hr4⟩ : ∃ (e1 : Int) (o1 : List Int) (t1 : Nat), runF ((1 : Nat) : Int) [oppF k a b] ⟨#[]⟩ 100 1000 = some (e1, o1, t1) ∧ (e = 0 → e1 = 1 ∧ o1 = four v ∧ t1 = 21) ∧ (e ≠ 0 → e1 = 2 ∧ o1 = [] ∧ t1 = 3) := by
    by_cases he : e = 0
    · subst he
      exact ⟨_, _, _, opp_run k a b v hv v0 v1 1000 (by omega), fun _ => ⟨rfl, rfl, rfl⟩, fun h => absurd rfl h⟩
    · exact ⟨_, _, _, opp_zero k a b v e hv he 1000 (by omega), fun h => absurd h he, fun _ => ⟨rfl, rfl, rfl⟩⟩
  have HV := Lib.hid hv
  have HR1 := Lib.hid hr1
  have HR3 := Lib.hid hr3
  have HR4 := Lib.hid hr4
  clear hr1 hr3 hr4 hv
  go_enter Try.func3, Try.ntmps3
  go_upto_region 3 with (go_at_call 9; refine (awake_any W).mono ?_; rintro e' w1 ⟨rfl, hb1⟩; have HB1 := Lib.hid hb1; clear hb1)
  go_upto_region 5 with (fail)
  obtain ⟨V1, hV1⟩ : ∃ V1, V1 = w1.alloc (.cells (fl25 (oppH k a b)).toArray 25) := ⟨_, rfl⟩
  have hO1 : k25.R 25 V1 w1.heap.size (fun _ => True) (.slice (some ⟨w1.heap.size, 0, none⟩) 4 4) (oppC k a b 0) := by rw [hV1]; exact own25 (l := oppH k a b) (heap_alloc_new w1 _) (Nat.le_refl _) trivial (by simp [oppH])
  have hB1 : Below w1.heap.size w1 V1 := by rw [hV1]; exact (Below.refl _ _).alloc (Nat.le_refl _) _
  rw [show w1.alloc (.cells #[.int .i64 1, .int .i64 0, .int .i64 0, .int .u32 a, .int .i64 1, .int .i64 0, .int .i64 0, .int .u32 b, .int .i64 6, .int .i64 k, .int .i64 0, .int .u32 0, .int .i64 3, .int .i64 0, .int .i64 0, .int .u32 0] 25) = V1 from hV1.symm]
  have HO1 := Lib.hid hO1
  have HB2 := Lib.hid hB1
  clear hO1 hB1 hV1
  go_wp2_with fail
  go_loopw [8, 9] (fun v8 v9 w' => ∃ j : Nat, j ≤ 4 ∧ v9 = .int .i64 (j : Int) ∧ RowKit.Hid (k25.R 25 w' w1.heap.size (fun _ => True) v8 (oppC k a b j)) ∧ RowKit.Hid (Below w1.heap.size w1 w')) (fun _ v _ => 4 - (intOf v).toNat)
  case atStart => exact ⟨0, by omega, rfl, HO1, HB2⟩
  case round =>
    obtain ⟨j, hj, rfl, hR, hB⟩ := hrel
    obtain ⟨A, c, e3⟩ : ∃ A c, _ = Value.slice A (4 + 4 * j) c := by
      have := Kd.R_slice hR.out
      rw [oppC_len] at this
      exact this
    subst e3
    by_cases hj4 : j < 4
    · have hj0 : decide ((j : Int) < 4) = true := decide_eq_true (by omega)
      have hj1 : IntKind.i64.wrap ((j : Int) + 1) = (j : Int) + 1 := IntWalk.i64_in _ (by omega)
      have hj2 : (8 * (j : Int)) % 4294967296 = 8 * (j : Int) := by omega
      have hbn : Below wr.heap.size wr (wr.alloc (.cells (fl25 (oppR j)).toArray 25)) := (Below.refl _ _).alloc (Nat.le_refl _) _
      have HRC := Lib.hid (C25 (W := wr.alloc (.cells (fl25 (oppR j)).toArray 25)) (l := oppR j) (heap_alloc_new wr _) (by simp [oppR]))
      have HR2 := Lib.hid (Kd.R_below hR.out hbn)
      have HB3 := Lib.hid (below_then hB.out hB.out.size hbn)
      have hl : ((oppC k a b j).length + 4) * 32 ≤ 140737488355328 := by rw [oppC_len]; omega
      clear hbn hR hB
      go_wp2_with (at_builtin; refine Kd.R_append_rows k25 (Rr := k25.K (wr.alloc (.cells (fl25 (oppR j)).toArray 25))) w1.heap.size rfl (.tmp 32) (.tmp 40) 26 25 (.agg #[.int .i64 0, .int .i64 0, .int .i64 0, .int .u32 0]) 32 rfl Try.underlying26 info25 rfl (by decide) (by decide) (.slice A (4 + 4 * j) c) (oppC k a b j) (oppR j) (some ⟨wr.heap.size, 0, none⟩) 4 4 (fun _ => True) (fun _ => False) rfl rfl HR2.out HRC.out (fun _ _ h => h) (fun _ h => h.elim) (fun _ _ => trivial) HB3.out HB3.out.size hl ?_)
      intro v1 W1 hR1 hB1 _ _
      have HR5 := Lib.hid (show k25.R 25 W1 w1.heap.size (fun _ => True) v1 (oppC k a b (j + 1)) from hR1)
      have HB5 := Lib.hid hB1
      clear hR1 hB1 HRC HR2 HB3 hl
      go_wp2_with fail
      go_roundw
      case rel => exact ⟨j + 1, by omega, by go_num, HR5, HB5⟩
      case measure => simp [intOf]; omega
    · have hj0 : decide ((j : Int) < 4) = false := decide_eq_false (by omega)
      have ej : j = 4 := by omega
      rw [show 4 + 4 * j = 20 by omega]
      have hR' : k25.R 25 wr w1.heap.size (fun _ => True) (.slice A 20 c) (oppC k a b 4) := by
        have := hR.out
        rw [ej] at this
        exact this
      have HR2 := Lib.hid hR'
      have HB3 := hB
      clear hR' hR hB ej
      go_wp2_with (at_builtin; refine Kd.R_append k25 w1.heap.size rfl (.tmp 42) (.tmp 44) 26 25 (.agg #[.int .i64 0, .int .i64 0, .int .i64 0, .int .u32 0]) 32 rfl Try.underlying26 info25 rfl (by decide) (by decide) (.slice A 20 c) (oppC k a b 4) ⟨11, 0, 0, 0⟩ [.int .i64 11, .int .i64 0, .int .i64 0, .int .u32 0] (fun _ => True) (fun _ => False) rfl rfl (k25_mkM _ _ _ _) (fun _ h => h.elim) (fun _ _ => trivial) HR2.out HB3.out HB3.out.size (by show (20 + 1) * 32 ≤ 140737488355328; decide) ?_)
      intro v2 W2 hR2 hB2 _ _
      have hR2' : k25.R 25 W2 w1.heap.size (fun _ => True) v2 (oppF k a b).f4 := hR2
      obtain ⟨A2, c2, e2'⟩ : ∃ A c, v2 = .slice A 21 c := Kd.R_slice hR2'
      have HO3 := Lib.hid (e2' ▸ hR2')
      have HB5 := Lib.hid hB2
      subst e2'
      clear hR2 hR2' hB2 HR2 HB3 hj0
      go_upto_region 11 with (fail)
      obtain ⟨V2, hV2⟩ : ∃ V2, V2 = (W2.alloc (.cells #[.int .i64 0, .int .i64 0, .int .i64 0, .bool false, .slice A2 21 c2] 28)).alloc (.cells #[.int .i64 1, .slice (some ⟨W2.heap.size, 0, none⟩) 1 1] 31) := ⟨_, rfl⟩
      rw [← hV2]
      have hB : Below W2.heap.size W2 V2 := by rw [hV2]; exact ((Below.refl _ _).alloc (Nat.le_refl _) _).alloc (by simp) _
      have hBV : Below w1.heap.size w1 V2 := below_then HB5.out HB5.out.size hB
      have h3 : V2.heap[W2.heap.size]? = some (.cells #[.int .i64 0, .int .i64 0, .int .i64 0, .bool false, .slice A2 21 c2] 28 (0, 0)) := by rw [hV2]; exact blk_alloc (heap_alloc_new _ _) _
      have h4 : V2.heap[W2.heap.size + 1]? = some (.cells #[.int .i64 1, .slice (some ⟨W2.heap.size, 0, none⟩) 1 1] 31 (0, 0)) := by
        rw [hV2]
        exact (congrArg (fun k => (World.alloc _ _).heap[k]?) (by simp)).trans (heap_alloc_new (W2.alloc _) _)
      obtain ⟨g7, hcF⟩ := (Kd.R_reads' HO3.out).2
      have HC := Lib.hid (C28_one (x := oppF k a b) h3 g7 (Kd.C_below hcF hB))
      have HB6 := Lib.hid (below_then HB1.out HB1.out.size hBV)
      have HX := Lib.hid h4
      have c0 : V2.cell? ⟨W2.heap.size + 1, 0, none⟩ = some (.int .i64 1) := by rw [blk_cell h4]; rfl
      have c1 : V2.cell? ⟨W2.heap.size + 1, 1, none⟩ = some (.slice (some ⟨W2.heap.size, 0, none⟩) 1 1) := by rw [blk_cell h4]; rfl
      clear hV2 hB hBV h3 h4 g7 hcF HO3 HB5 HB2 HO1 HB1
      go_upto_region 12 with (go_at_call 10; refine (run_any V2 1 _ 1 [oppF k a b] HC.out (Nat.zero_lt_one) ⟨#[]⟩ 100 1000 (by decide) e1 o1 t1 HR1.out (by decide)).mono ?_; rintro e' w2 ⟨rfl, hb2⟩; have HX2 := Lib.hid (blk_below HX.out hb2); have HC2 := Lib.hid (Kd.C_below HC.out hb2); have HB7 := Lib.hid (below_then HB6.out HB6.out.size hb2); clear c0 c1 hb2)
      obtain ⟨V3, hV3⟩ : ∃ V3, V3 = w2.alloc (.cells #[.int .i64 e1, .string (strOfNums o1), .int .i64 t1] 33) := ⟨_, rfl⟩
      rw [← hV3]
      have hB : Below w2.heap.size w2 V3 := by rw [hV3]; exact (Below.refl _ _).alloc (Nat.le_refl _) _
      have h1 : V3.heap[w2.heap.size]? = some (.cells #[.int .i64 e1, .string (strOfNums o1), .int .i64 t1] 33 (0, 0)) := by rw [hV3]; exact heap_alloc_new _ _
      have HY3 := Lib.hid h1
      have HX3 := Lib.hid (blk_below HX2.out hB)
      have HC3 := Lib.hid (Kd.C_below HC2.out hB)
      have HB8 := Lib.hid (below_then HB7.out HB7.out.size hB)
      clear hV3 hB h1 HC HX HC2 HX2 HB6 HB7
      go_upto_region 13 with (go_at_call 11; refine (word_Apply.calls 1 k a b v e V3 HV.out).mono ?_; rintro e' w4 ⟨rfl, hd4⟩; have hb4 : Below V3.heap.size V3 w4 := (by obtain ⟨n, rfl⟩ := hd4.out; exact pw_below_drewN (Below.refl _ _) _); have HY4 := Lib.hid (blk_below HY3.out hb4); have HX4 := Lib.hid (blk_below HX3.out hb4); have HC4 := Lib.hid (Kd.C_below HC3.out hb4); have HB9 := Lib.hid (below_then HB8.out HB8.out.size hb4); clear hd4 hb4)
      have h1 := HY4.out
      have x0 : w4.cell? ⟨w2.heap.size, 0, none⟩ = some (.int .i64 e1) := by rw [blk_cell h1]; rfl
      have x1 : w4.cell? ⟨w2.heap.size, 1, none⟩ = some (.string (strOfNums o1)) := by rw [blk_cell h1]; rfl
      have x2 : w4.cell? ⟨w2.heap.size, 2, none⟩ = some (.int .i64 t1) := by rw [blk_cell h1]; rfl
      have h2 := HX4.out
      have c0 : w4.cell? ⟨W2.heap.size + 1, 0, none⟩ = some (.int .i64 1) := by rw [blk_cell h2]; rfl
      have c1 : w4.cell? ⟨W2.heap.size + 1, 1, none⟩ = some (.slice (some ⟨W2.heap.size, 0, none⟩) 1 1) := by rw [blk_cell h2]; rfl
      clear h1 h2 HY3 HX3 HC3 HB8 HX4
      by_cases he : e = 0
      · obtain ⟨rfl, rfl, rfl⟩ := HR3.out he
        subst he
        clear HR1 HR3 HR4
        go_upto_region 15 with (fail)
        have HK := Lib.hid (show ∀ w5 : World, Below w4.heap.size w4 w5 → w5.cell? ⟨w2.heap.size, 0, none⟩ = some (.int .i64 1) ∧ w5.cell? ⟨w2.heap.size, 1, none⟩ = some (.string (strOfNums (four v))) ∧ w5.cell? ⟨w2.heap.size, 2, none⟩ = some (.int .i64 21) ∧ w5.cell? ⟨W2.heap.size + 1, 0, none⟩ = some (.int .i64 1) ∧ w5.cell? ⟨W2.heap.size + 1, 1, none⟩ = some (.slice (some ⟨W2.heap.size, 0, none⟩) 1 1) ∧ Below w4.heap.size w4 w5 from fun w5 h => ⟨pw_cell_below h x0, pw_cell_below h x1, pw_cell_below h x2, pw_cell_below h c0, pw_cell_below h c1, h⟩)
        clear x0 x1 x2 c0 c1
        go_region_held3 (fun W => W.cell? ⟨w2.heap.size, 0, none⟩ = some (.int .i64 1) ∧ W.cell? ⟨w2.heap.size, 1, none⟩ = some (.string (strOfNums (four v))) ∧ W.cell? ⟨w2.heap.size, 2, none⟩ = some (.int .i64 21) ∧ W.cell? ⟨W2.heap.size + 1, 0, none⟩ = some (.int .i64 1) ∧ W.cell? ⟨W2.heap.size + 1, 1, none⟩ = some (.slice (some ⟨W2.heap.size, 0, none⟩) 1 1) ∧ Below w4.heap.size w4 W) (first | exact HK.out _ (Below.refl _ _).drew | exact HK.out _ (by assumption) | exact HK.out _ (Below.alloc ((‹_ ∧ _ ∧ _ ∧ _ ∧ _ ∧ Below w4.heap.size w4 _›).2.2.2.2.2) (Below.size ((‹_ ∧ _ ∧ _ ∧ _ ∧ _ ∧ Below w4.heap.size w4 _›).2.2.2.2.2)) _) | (trace_state; fail)) (first | (go_at_call 12; refine (right_yes _ 1 _ [oppF k a b] 1 (Kd.C_below HC4.out (Below.refl _ _).drew) (Nat.le_refl 1) (right_opp k a b k0 k1)).mono ?_; rintro e' w5 ⟨rfl, hb5⟩; have hb6 := below_then (Below.refl w4.heap.size w4).drew (Nat.le_refl _) hb5) | (go_at_call 13; refine (bytes_one _ _ v v0 v1 (heap_alloc_new _ _)).mono ?_; rintro e' w6 ⟨rfl, hb7⟩; have hb8 : Below w4.heap.size w4 w6 := (by first | exact below_then ((‹_ ∧ _ ∧ _ ∧ _ ∧ _ ∧ Below w4.heap.size w4 _›).2.2.2.2.2) (Below.size ((‹_ ∧ _ ∧ _ ∧ _ ∧ _ ∧ Below w4.heap.size w4 _›).2.2.2.2.2)) hb7 | exact below_then (Below.alloc ((‹_ ∧ _ ∧ _ ∧ _ ∧ _ ∧ Below w4.heap.size w4 _›).2.2.2.2.2) (Below.size ((‹_ ∧ _ ∧ _ ∧ _ ∧ _ ∧ Below w4.heap.size w4 _›).2.2.2.2.2)) _) (Below.size (Below.alloc ((‹_ ∧ _ ∧ _ ∧ _ ∧ _ ∧ Below w4.heap.size w4 _›).2.2.2.2.2) (Below.size ((‹_ ∧ _ ∧ _ ∧ _ ∧ _ ∧ Below w4.heap.size w4 _›).2.2.2.2.2)) _)) hb7)))
        all_goals (go_wp2_with fail; go_ret; exact ⟨rfl, below_then HB9.out HB9.out.size hb8⟩)
      · obtain ⟨rfl, rfl, rfl⟩ := HR4.out he
        have d1 : (e == 0) = false := by simpa using he
        have s0 : strOfNums [] = ⟨#[]⟩ := by decide +kernel
        rw [s0] at x1
        go_wp2_with fail
        go_ret
        exact ⟨rfl, HB9.out⟩
end Go.Proofs.Ytlngcolnjgloaaa
