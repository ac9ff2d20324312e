/- StackCalls is true at any input. Conditions: none. -/
import Derived.Test.YtlngcolnjgloaaaAwk
import Derived.Test.YtlngcolnjgloaaaApn
import Derived.Test.YtlngcolnjgloaaaCll
namespace Go.Proofs.Ytlngcolnjgloaaa
set_option linter.unusedVariables false
set_option linter.unusedSimpArgs false
open Go.RowKit Go.Proofs.YtlngcolnjgloaaaW.PrintWords PStackRuns

theorem u32_bounds {y : Int} (h : (Lit.int .u32 y).wf = true) : 0 ≤ y ∧ y < 4294967296 := by
  simp only [Lit.wf, Bool.and_eq_true, decide_eq_true_eq] at h
  have h1 : IntKind.u32.min = 0 := rfl
  have h2 : IntKind.u32.max = 4294967295 := rfl
  omega

set_option maxHeartbeats 4000000 in
set_option maxRecDepth 100000 in
theorem cll_row (W : World) (a : Int) (ha : (Lit.int .u32 a).wf = true) (b : Int) (hb : (Lit.int .u32 b).wf = true) (c : Int) (hc : (Lit.int .u32 c).wf = true) : Calls Try.prog 6 #[.int .u32 a, .int .u32 b, .int .u32 c] W (YesPost W) := by
  go_enter Try.func6, Try.ntmps6
  go_upto_region 3 with (go_at_call 9; refine (awake_any W).mono ?_; rintro e w1 ⟨rfl, hb1⟩; have HB1 := Lib.hid hb1; clear hb1)
  go_upto_region 5 with (fail)
  obtain ⟨V1, hV1⟩ : ∃ V1, V1 = ((w1.alloc (.cells (fl25 (cllC c)).toArray 25)).alloc (.cells #[.int .i64 2, .int .i64 3, .int .i64 1, .bool true, .slice (some ⟨w1.heap.size, 0, none⟩) 8 8] 28)).alloc (.cells (fl25 (cllH a b)).toArray 25) := ⟨_, rfl⟩
  have hB : Below w1.heap.size w1 V1 := by rw [hV1]; exact (((Below.refl _ _).alloc (Nat.le_refl _) _).alloc (by simp) _).alloc (by simp; omega) _
  have h1 : V1.heap[w1.heap.size]? = some (.cells (fl25 (cllC c)).toArray 25 (0, 0)) := by rw [hV1]; exact blk_alloc (blk_alloc (heap_alloc_new w1 _) _) _
  have h2 : V1.heap[w1.heap.size + 1]? = some (.cells #[.int .i64 2, .int .i64 3, .int .i64 1, .bool true, .slice (some ⟨w1.heap.size, 0, none⟩) 8 8] 28 (0, 0)) := by
    rw [hV1]
    exact blk_alloc ((congrArg (fun k => (World.alloc _ _).heap[k]?) (by simp)).trans (heap_alloc_new (w1.alloc _) _)) _
  have h3 : V1.heap[w1.heap.size + 1 + 1]? = some (.cells (fl25 (cllH a b)).toArray 25 (0, 0)) := by
    rw [hV1]
    exact (congrArg (fun k => (World.alloc _ _).heap[k]?) (by simp)).trans (heap_alloc_new ((w1.alloc _).alloc _) _)
  have E1 := Lib.hid hV1
  have HB2 := Lib.hid (below_then HB1.out HB1.out.size hB)
  have H1 := Lib.hid h1
  have H2 := Lib.hid h2
  have H3 := Lib.hid h3
  clear hV1 hB h1 h2 h3 HB1
  rw [show ((w1.alloc (Obj.cells #[Value.int IntKind.i64 2, Value.int IntKind.i64 1, Value.int IntKind.i64 0, Value.int IntKind.u32 0, Value.int IntKind.i64 2, Value.int IntKind.i64 2, Value.int IntKind.i64 0, Value.int IntKind.u32 0, Value.int IntKind.i64 6, Value.int IntKind.i64 5, Value.int IntKind.i64 0, Value.int IntKind.u32 0, Value.int IntKind.i64 2, Value.int IntKind.i64 3, Value.int IntKind.i64 0, Value.int IntKind.u32 0, Value.int IntKind.i64 6, Value.int IntKind.i64 5, Value.int IntKind.i64 0, Value.int IntKind.u32 0, Value.int IntKind.i64 1, Value.int IntKind.i64 0, Value.int IntKind.i64 0, Value.int IntKind.u32 c, Value.int IntKind.i64 3, Value.int IntKind.i64 3, Value.int IntKind.i64 0, Value.int IntKind.u32 0, Value.int IntKind.i64 11, Value.int IntKind.i64 0, Value.int IntKind.i64 0, Value.int IntKind.u32 0] 25)).alloc (.cells #[.int .i64 2, .int .i64 3, .int .i64 1, .bool true, .slice (some ⟨w1.heap.size, 0, none⟩) 8 8] 28)).alloc (Obj.cells #[Value.int IntKind.i64 1, Value.int IntKind.i64 0, Value.int IntKind.i64 0, Value.int IntKind.u32 a, Value.int IntKind.i64 1, Value.int IntKind.i64 0, Value.int IntKind.i64 0, Value.int IntKind.u32 b, Value.int IntKind.i64 10, Value.int IntKind.i64 0, Value.int IntKind.i64 0, Value.int IntKind.u32 0, Value.int IntKind.i64 13, Value.int IntKind.i64 0, Value.int IntKind.i64 0, Value.int IntKind.u32 0] 25) = V1 from E1.out.symm]
  have hO1 : k25.R 25 (V1.alloc (.cells #[] 25)) V1.heap.size (fun _ => True) (.slice (some ⟨V1.heap.size, 0, none⟩) 0 0) [] := own25 (l := []) (heap_alloc_new V1 _) (Nat.le_refl _) trivial (by decide)
  have hB1 : Below V1.heap.size V1 (V1.alloc (.cells #[] 25)) := (Below.refl _ _).alloc (Nat.le_refl _) _
  have hC1 : k25.C (V1.alloc (.cells #[] 25)) (some ⟨w1.heap.size + 1 + 1, 0, none⟩) 4 (cllH a b) := C25 (l := cllH a b) (blk_below H3.out hB1) (by simp [cllH])
  have HO1 := Lib.hid hO1
  have HB3 := Lib.hid hB1
  have HC1 := Lib.hid hC1
  clear hO1 hB1 hC1
  go_wp2_with (at_builtin; refine Kd.R_append_rows k25 (Rr := k25.K (V1.alloc (.cells #[] 25))) V1.heap.size rfl (.tmp 32) (.tmp 33) 26 25 (.agg #[.int .i64 0, .int .i64 0, .int .i64 0, .int .u32 0]) 32 rfl Try.underlying26 info25 rfl (by decide) (by decide) (.slice (some ⟨V1.heap.size, 0, none⟩) 0 0) [] (cllH a b) (some ⟨w1.heap.size + 1 + 1, 0, none⟩) 4 4 (fun _ => True) (fun _ => False) rfl rfl HO1.out HC1.out (fun _ _ h => h) (fun _ h => h.elim) (fun _ _ => trivial) HB3.out (by simp) (by show (0 + 4) * 32 ≤ 140737488355328; decide) ?_)
  intro v1 W1 hR1 hB1 _ _
  have hR1' : k25.R 25 W1 V1.heap.size (fun _ => True) v1 (cllH a b) := hR1
  obtain ⟨A1, c1, e1⟩ : ∃ A c, v1 = .slice A 4 c := Kd.R_slice hR1'
  have HR1 := Lib.hid (e1 ▸ hR1')
  have hC1 : k25.C W1 (some ⟨w1.heap.size + 1 + 1, 0, none⟩) 4 (cllH a b) := C25 (l := cllH a b) (blk_below H3.out hB1) (by simp [cllH])
  have HC2 := Lib.hid hC1
  have HB4 := Lib.hid hB1
  subst e1
  clear hR1 hR1' hB1 hC1 HC1 HO1 HB3
  go_wp2_with (at_builtin; refine Kd.R_append_rows k25 (Rr := k25.K W1) V1.heap.size rfl (.tmp 34) (.tmp 35) 26 25 (.agg #[.int .i64 0, .int .i64 0, .int .i64 0, .int .u32 0]) 32 rfl Try.underlying26 info25 rfl (by decide) (by decide) (.slice A1 4 c1) (cllH a b) (cllH a b) (some ⟨w1.heap.size + 1 + 1, 0, none⟩) 4 4 (fun _ => True) (fun _ => False) rfl rfl HR1.out HC2.out (fun _ _ h => h) (fun _ h => h.elim) (fun _ _ => trivial) HB4.out HB4.out.size (by show (4 + 4) * 32 ≤ 140737488355328; decide) ?_)
  intro v2 W2 hR2 hB2 _ _
  obtain ⟨A2, c2, e2⟩ : ∃ A c, v2 = .slice A 8 c := Kd.R_slice hR2
  have HR2 := Lib.hid (e2 ▸ hR2)
  have HB5 := Lib.hid hB2
  subst e2
  clear hR2 hB2 HC2 HR1 HB4
  go_wp2_with (at_builtin; refine Kd.R_append k25 V1.heap.size rfl (.tmp 36) (.tmp 38) 26 25 (.agg #[.int .i64 0, .int .i64 0, .int .i64 0, .int .u32 0]) 32 rfl Try.underlying26 info25 rfl (by decide) (by decide) (.slice A2 8 c2) (cllH a b ++ cllH a b) ⟨11, 0, 0, 0⟩ [.int .i64 11, .int .i64 0, .int .i64 0, .int .u32 0] (fun _ => True) (fun _ => False) rfl rfl (k25_mkM _ _ _ _) (fun _ h => h.elim) (fun _ _ => trivial) HR2.out HB5.out HB5.out.size (by show (8 + 1) * 32 ≤ 140737488355328; decide) ?_)
  intro v3 W3 hR3 hB3 _ _
  have hR3' : k25.R 25 W3 V1.heap.size (fun _ => True) v3 (cllG a b).f4 := hR3
  obtain ⟨A3, c3, e3⟩ : ∃ A c, v3 = .slice A 9 c := Kd.R_slice hR3'
  have HR3 := Lib.hid (e3 ▸ hR3')
  have HB6 := Lib.hid hB3
  subst e3
  clear hR3 hR3' hB3 HR2 HB5 E1
  go_upto_region 6 with (fail)
  obtain ⟨V2, hV2⟩ : ∃ V2, V2 = W3.alloc (.cells #[.int .i64 0, .int .i64 0, .int .i64 0, .bool false, .slice A3 9 c3] 28) := ⟨_, rfl⟩
  rw [← hV2]
  have hB : Below W3.heap.size W3 V2 := by rw [hV2]; exact (Below.refl _ _).alloc (Nat.le_refl _) _
  have hBV : Below V1.heap.size V1 V2 := below_then HB6.out HB6.out.size hB
  have h4 : V2.heap[W3.heap.size]? = some (.cells #[.int .i64 0, .int .i64 0, .int .i64 0, .bool false, .slice A3 9 c3] 28 (0, 0)) := by rw [hV2]; exact heap_alloc_new _ _
  have h2 := blk_below H2.out hBV
  obtain ⟨g9, hcG⟩ := (Kd.R_reads' HR3.out).2
  have HCG := Lib.hid (Kd.C_below hcG hB)
  have HCF := Lib.hid (C25 (l := cllC c) (blk_below H1.out hBV) (by simp [cllC]))
  have HG9 := Lib.hid g9
  have HB7 := Lib.hid (below_then HB2.out HB2.out.size hBV)
  have x0 : V2.cell? ⟨w1.heap.size + 1, 0, none⟩ = some (.int .i64 2) := by rw [blk_cell h2]; rfl
  have x1 : V2.cell? ⟨w1.heap.size + 1, 1, none⟩ = some (.int .i64 3) := by rw [blk_cell h2]; rfl
  have x2 : V2.cell? ⟨w1.heap.size + 1, 2, none⟩ = some (.int .i64 1) := by rw [blk_cell h2]; rfl
  have x3 : V2.cell? ⟨w1.heap.size + 1, 3, none⟩ = some (.bool true) := by rw [blk_cell h2]; rfl
  have x4 : V2.cell? ⟨w1.heap.size + 1, 4, none⟩ = some (.slice (some ⟨w1.heap.size, 0, none⟩) 8 8) := by rw [blk_cell h2]; rfl
  have y0 : V2.cell? ⟨W3.heap.size, 0, none⟩ = some (.int .i64 0) := by rw [blk_cell h4]; rfl
  have y1 : V2.cell? ⟨W3.heap.size, 1, none⟩ = some (.int .i64 0) := by rw [blk_cell h4]; rfl
  have y2 : V2.cell? ⟨W3.heap.size, 2, none⟩ = some (.int .i64 0) := by rw [blk_cell h4]; rfl
  have y3 : V2.cell? ⟨W3.heap.size, 3, none⟩ = some (.bool false) := by rw [blk_cell h4]; rfl
  have y4 : V2.cell? ⟨W3.heap.size, 4, none⟩ = some (.slice A3 9 c3) := by rw [blk_cell h4]; rfl
  clear hV2 hB hBV h4 h2 g9 hcG HB6 HR3 H1 H2 H3 HB2
  go_upto_region 7 with (fail)
  clear x0 x1 x2 x3 x4 y0 y1 y2 y3 y4
  obtain ⟨V3, hV3⟩ : ∃ V3, V3 = (V2.alloc (.cells #[.int .i64 2, .int .i64 3, .int .i64 1, .bool true, .slice (some ⟨w1.heap.size, 0, none⟩) 8 8, .int .i64 0, .int .i64 0, .int .i64 0, .bool false, .slice A3 9 c3] 28)).alloc (.cells #[.int .i64 4, .slice (some ⟨V2.heap.size, 0, none⟩) 2 2] 31) := ⟨_, rfl⟩
  rw [← hV3]
  have hB : Below V2.heap.size V2 V3 := by rw [hV3]; exact ((Below.refl _ _).alloc (Nat.le_refl _) _).alloc (by simp) _
  have h1 : V3.heap[V2.heap.size]? = some (.cells #[.int .i64 2, .int .i64 3, .int .i64 1, .bool true, .slice (some ⟨w1.heap.size, 0, none⟩) 8 8, .int .i64 0, .int .i64 0, .int .i64 0, .bool false, .slice A3 9 c3] 28 (0, 0)) := by rw [hV3]; exact blk_alloc (heap_alloc_new _ _) _
  have h2 : V3.heap[V2.heap.size + 1]? = some (.cells #[.int .i64 4, .slice (some ⟨V2.heap.size, 0, none⟩) 2 2] 31 (0, 0)) := by
    rw [hV3]
    exact (congrArg (fun k => (World.alloc _ _).heap[k]?) (by simp)).trans (heap_alloc_new (V2.alloc _) _)
  have hC : k28.C V3 (some ⟨V2.heap.size, 0, none⟩) 2 [cllF c, cllG a b] := C28_two (x := cllF c) (y := cllG a b) h1 (Nat.le_refl 8) (Kd.C_below HCF.out hB) HG9.out (Kd.C_below HCG.out hB)
  have HC := Lib.hid hC
  have HBX := Lib.hid h2
  have HB8 := Lib.hid (below_then HB7.out HB7.out.size hB)
  clear hV3 hB h1 h2 hC HB7 HG9 HCF HCG
  have hcv := str_of_block (W := V3.alloc (.cells #[.int .u8 ((a - b) % 256), .int .u8 ((a - b) % 256)] 5)) (l := [(a - b) % 256, (a - b) % 256]) (heap_alloc_new V3 _) (by simp)
  rw [show ([(a - b) % 256, (a - b) % 256] : List Int).length = 2 from rfl] at hcv
  have hrun : runF (4 : Nat) [cllF c, cllG a b] ⟨#[]⟩ 100 1000 = some (1, [(a - b) % 256, (a - b) % 256], 25) := by
    have := cll_run a b c 1000 (by omega)
    rw [show (a - b) % 4294967296 % 256 = (a - b) % 256 by omega] at this
    exact this
  have HRUN := Lib.hid hrun
  clear hrun
  go_upto_region 8 with (fail)
  clear hcv
  obtain ⟨V4, hV4⟩ : ∃ V4, V4 = V3.alloc (.cells #[.int .u8 ((a - b) % 256), .int .u8 ((a - b) % 256)] 5) := ⟨_, rfl⟩
  rw [← hV4]
  have hB : Below V3.heap.size V3 V4 := by rw [hV4]; exact (Below.refl _ _).alloc (Nat.le_refl _) _
  have HC4 := Lib.hid (Kd.C_below HC.out hB)
  have hx4 := blk_below HBX.out hB
  have HX4 := Lib.hid hx4
  have HB9 := Lib.hid (below_then HB8.out HB8.out.size hB)
  have c0 : V4.cell? ⟨V2.heap.size + 1, 0, none⟩ = some (.int .i64 4) := by rw [blk_cell hx4]; rfl
  have c1 : V4.cell? ⟨V2.heap.size + 1, 1, none⟩ = some (.slice (some ⟨V2.heap.size, 0, none⟩) 2 2) := by rw [blk_cell hx4]; rfl
  clear hV4 hB hx4 HC HBX HB8
  go_wp2_with (first | (go_at_call 12; refine (right_yes V4 4 _ [cllF c, cllG a b] 2 HC4.out (Nat.le_refl 2) (right_cll a b c)).mono ?_; rintro e w2 ⟨rfl, hb2⟩; have HC5 := Lib.hid (Kd.C_below HC4.out hb2); have HB10 := Lib.hid (below_then HB9.out HB9.out.size hb2); have hx5 := blk_below HX4.out hb2; clear c0 c1; have c0 : w2.cell? ⟨V2.heap.size + 1, 0, none⟩ = some (.int .i64 4) := (by rw [blk_cell hx5]; rfl); have c1 : w2.cell? ⟨V2.heap.size + 1, 1, none⟩ = some (.slice (some ⟨V2.heap.size, 0, none⟩) 2 2) := (by rw [blk_cell hx5]; rfl); clear hb2 hx5) | (go_at_call 10; refine (run_any w2 4 _ 2 [cllF c, cllG a b] HC5.out (Nat.zero_lt_two) ⟨#[]⟩ 100 1000 (by decide) 1 [(a - b) % 256, (a - b) % 256] 25 HRUN.out (by decide)).mono ?_; rintro e w3 ⟨rfl, hb3⟩; have HB11 := Lib.hid (below_then HB10.out HB10.out.size hb3); clear hb3 c0 c1))
  go_ret
  exact ⟨rfl, HB11.out⟩
end Go.Proofs.Ytlngcolnjgloaaa
