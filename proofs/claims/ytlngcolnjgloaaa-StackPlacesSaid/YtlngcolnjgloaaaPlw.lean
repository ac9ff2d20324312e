/- StackPlaces is true at any input. Conditions: none. -/
import Derived.Test.YtlngcolnjgloaaaAwk
import Derived.Test.YtlngcolnjgloaaaApn
import Derived.Test.YtlngcolnjgloaaaPlc
namespace Go.Proofs.Ytlngcolnjgloaaa
set_option linter.unusedVariables false
set_option linter.unusedSimpArgs false
open Go.RowKit Go.Proofs.YtlngcolnjgloaaaW.PrintWords PStackRuns

theorem num_bounds {k : IntKind} {y : Int} (h : (Lit.int k y).wf = true) : k.min ≤ y ∧ y ≤ k.max := by
  simpa only [Lit.wf, Bool.and_eq_true, decide_eq_true_eq] using h

set_option maxHeartbeats 4000000 in
set_option maxRecDepth 100000 in
theorem plc_row (W : World) (s : Int) (hs : (Lit.int .u16 s).wf = true) (i : Int) (hi : (Lit.int .u32 i).wf = true) (v : Int) (hv : (Lit.int .u8 v).wf = true) : Calls Try.prog 7 #[.int .u16 s, .int .u32 i, .int .u8 v] W (YesPost W) := by
  obtain ⟨s0, s1⟩ : 0 ≤ s ∧ s ≤ 65535 := num_bounds hs
  obtain ⟨i0, i1⟩ : 0 ≤ i ∧ i ≤ 4294967295 := num_bounds hi
  obtain ⟨v0, v1⟩ : 0 ≤ v ∧ v ≤ 255 := num_bounds hv
  obtain ⟨n, hn⟩ : ∃ n : Nat, 1 + s % 4096 = (n : Int) := ⟨(1 + s % 4096).toNat, by omega⟩
  have hn1 : 1 ≤ n := by omega
  have hn2 : n ≤ 4096 := by omega
  go_enter Try.func7, Try.ntmps7
  go_upto_region 3 with (go_at_call 9; refine (awake_any W).mono ?_; rintro e w1 ⟨rfl, hb1⟩; have HB1 := Lib.hid hb1; clear hb1)
  obtain ⟨m, hm⟩ : ∃ m : Nat, (n : Int) + 2 = (m : Int) := ⟨n + 2, by omega⟩
  have HMM := Lib.hid (show m = n + 2 by omega)
  obtain ⟨e1, o1, t1, e2, o2, t2, hr1, hr2, hr3, hr4⟩ : ∃ (e1 : Int) (o1 : List Int) (t1 : Nat) (e2 : Int) (o2 : List Int) (t2 : Nat), runF (m : Int) [plcF i v n] ⟨#[]⟩ 100 1000 = some (e1, o1, t1) ∧ runF (m : Int) [plcG i n] ⟨#[]⟩ 100 1000 = some (e2, o2, t2) ∧ (i < n → e1 = 1 ∧ o1 = [v] ∧ t1 = 7 ∧ e2 = 1 ∧ o2 = [0] ∧ t2 = 4) ∧ (n ≤ i → e1 = 3 ∧ o1 = [] ∧ t1 = 3 ∧ e2 = 3 ∧ o2 = [] ∧ t2 = 2) := by
    rw [HMM.out]
    by_cases hin : i < n
    · obtain ⟨h1, h2⟩ := plc_run_in i v n i0 (by omega) hn1 hn2 hin v0 (by omega) 1000 (by omega)
      exact ⟨_, _, _, _, _, _, h1, h2, fun _ => ⟨rfl, rfl, rfl, rfl, rfl, rfl⟩, fun h => by omega⟩
    · obtain ⟨h1, h2⟩ := plc_run_out i v n i0 (by omega) hn1 hn2 (by omega) 1000 (by omega)
      exact ⟨_, _, _, _, _, _, h1, h2, fun h => by omega, fun _ => ⟨rfl, rfl, rfl, rfl, rfl, rfl⟩⟩
  have HR1 := Lib.hid hr1
  have HR2 := Lib.hid hr2
  have HR3 := Lib.hid hr3
  have HR4 := Lib.hid hr4
  clear hr1 hr2 hr3 hr4
  go_upto_region 6 with (fail)
  obtain ⟨V1, hV1⟩ : ∃ V1, V1 = (w1.alloc (.cells (fl25 (plcS i v n)).toArray 25)).alloc (.cells (fl25 (plcL i n)).toArray 25) := ⟨_, rfl⟩
  have hB : Below w1.heap.size w1 V1 := by rw [hV1]; exact ((Below.refl _ _).alloc (Nat.le_refl _) _).alloc (by simp) _
  have h1 : V1.heap[w1.heap.size]? = some (.cells (fl25 (plcS i v n)).toArray 25 (0, 0)) := by rw [hV1]; exact blk_alloc (heap_alloc_new w1 _) _
  have h2 : V1.heap[w1.heap.size + 1]? = some (.cells (fl25 (plcL i n)).toArray 25 (0, 0)) := by
    rw [hV1]
    exact (congrArg (fun k => (World.alloc _ _).heap[k]?) (by simp)).trans (heap_alloc_new (w1.alloc _) _)
  have E1 := Lib.hid hV1
  have HB2 := Lib.hid (below_then HB1.out HB1.out.size hB)
  have H1 := Lib.hid h1
  have H2 := Lib.hid h2
  clear hV1 hB h1 h2 HB1
  rw [show (w1.alloc (.cells #[.int .i64 1, .int .i64 0, .int .i64 0, .int .u32 i, .int .i64 1, .int .i64 0, .int .i64 0, .int .u32 v, .int .i64 5, .int .i64 2, .int .i64 n, .int .u32 0] 25)).alloc (.cells #[.int .i64 1, .int .i64 0, .int .i64 0, .int .u32 i, .int .i64 4, .int .i64 2, .int .i64 n, .int .u32 0, .int .i64 13, .int .i64 0, .int .i64 0, .int .u32 0, .int .i64 11, .int .i64 0, .int .i64 0, .int .u32 0] 25) = V1 from E1.out.symm]
  have hO1 : k25.R 25 (V1.alloc (.cells #[] 25)) V1.heap.size (fun _ => True) (.slice (some ⟨V1.heap.size, 0, none⟩) 0 0) [] := own25 (l := []) (heap_alloc_new V1 _) (Nat.le_refl _) trivial (by decide)
  have hB1 : Below V1.heap.size V1 (V1.alloc (.cells #[] 25)) := (Below.refl _ _).alloc (Nat.le_refl _) _
  have hC1 : k25.C (V1.alloc (.cells #[] 25)) (some ⟨w1.heap.size, 0, none⟩) 3 (plcS i v n) := C25 (l := plcS i v n) (blk_below H1.out hB1) (by simp [plcS])
  have HO1 := Lib.hid hO1
  have HB3 := Lib.hid hB1
  have HC1 := Lib.hid hC1
  clear hO1 hB1 hC1 E1
  go_wp2_with (at_builtin; refine Kd.R_append_rows k25 (Rr := k25.K (V1.alloc (.cells #[] 25))) V1.heap.size rfl (.tmp 37) (.tmp 38) 26 25 (.agg #[.int .i64 0, .int .i64 0, .int .i64 0, .int .u32 0]) 32 rfl Try.underlying26 info25 rfl (by decide) (by decide) (.slice (some ⟨V1.heap.size, 0, none⟩) 0 0) [] (plcS i v n) (some ⟨w1.heap.size, 0, none⟩) 3 3 (fun _ => True) (fun _ => False) rfl rfl HO1.out HC1.out (fun _ _ h => h) (fun _ h => h.elim) (fun _ _ => trivial) HB3.out (by simp) (by show (0 + 3) * 32 ≤ 140737488355328; decide) ?_)
  intro v1 W1 hR1 hB1 _ _
  have hR1' : k25.R 25 W1 V1.heap.size (fun _ => True) v1 (plcS i v n) := hR1
  obtain ⟨A1, c1, e1'⟩ : ∃ A c, v1 = .slice A 3 c := Kd.R_slice hR1'
  have HO2 := Lib.hid (e1' ▸ hR1')
  have hC1 : k25.C W1 (some ⟨w1.heap.size + 1, 0, none⟩) 4 (plcL i n) := C25 (l := plcL i n) (blk_below H2.out hB1) (by simp [plcL])
  have HC2 := Lib.hid hC1
  have HB4 := Lib.hid hB1
  subst e1'
  clear hR1 hR1' hB1 hC1 HC1 HO1 HB3
  go_wp2_with (at_builtin; refine Kd.R_append_rows k25 (Rr := k25.K W1) V1.heap.size rfl (.tmp 39) (.tmp 40) 26 25 (.agg #[.int .i64 0, .int .i64 0, .int .i64 0, .int .u32 0]) 32 rfl Try.underlying26 info25 rfl (by decide) (by decide) (.slice A1 3 c1) (plcS i v n) (plcL i n) (some ⟨w1.heap.size + 1, 0, none⟩) 4 4 (fun _ => True) (fun _ => False) rfl rfl HO2.out HC2.out (fun _ _ h => h) (fun _ h => h.elim) (fun _ _ => trivial) HB4.out HB4.out.size (by show (3 + 4) * 32 ≤ 140737488355328; decide) ?_)
  intro v2 W2 hR2 hB2 _ _
  have hR2' : k25.R 25 W2 V1.heap.size (fun _ => True) v2 (plcF i v n).f4 := hR2
  obtain ⟨A2, c2, e2'⟩ : ∃ A c, v2 = .slice A 7 c := Kd.R_slice hR2'
  have HO3 := Lib.hid (e2' ▸ hR2')
  have HB5 := Lib.hid hB2
  subst e2'
  clear hR2 hR2' hB2 HC2 HO2 HB4
  go_upto_region 7 with (fail)
  obtain ⟨V2, hV2⟩ : ∃ V2, V2 = (W2.alloc (.cells #[.int .i64 0, .int .i64 0, .int .i64 0, .bool false, .slice A2 7 c2] 28)).alloc (.cells #[.int .i64 (m : Int), .slice (some ⟨W2.heap.size, 0, none⟩) 1 1] 31) := ⟨_, rfl⟩
  rw [← hV2]
  have hB : Below W2.heap.size W2 V2 := by rw [hV2]; exact ((Below.refl _ _).alloc (Nat.le_refl _) _).alloc (by simp) _
  have hBV : Below V1.heap.size V1 V2 := below_then HB5.out HB5.out.size hB
  have h3 : V2.heap[W2.heap.size]? = some (.cells #[.int .i64 0, .int .i64 0, .int .i64 0, .bool false, .slice A2 7 c2] 28 (0, 0)) := by rw [hV2]; exact blk_alloc (heap_alloc_new _ _) _
  have h4 : V2.heap[W2.heap.size + 1]? = some (.cells #[.int .i64 (m : Int), .slice (some ⟨W2.heap.size, 0, none⟩) 1 1] 31 (0, 0)) := by
    rw [hV2]
    exact (congrArg (fun k => (World.alloc _ _).heap[k]?) (by simp)).trans (heap_alloc_new (W2.alloc _) _)
  obtain ⟨g7, hcF⟩ := (Kd.R_reads' HO3.out).2
  have HC := Lib.hid (C28_one (x := plcF i v n) h3 g7 (Kd.C_below hcF hB))
  have HL := Lib.hid (C25 (l := plcL i n) (blk_below H2.out hBV) (by simp [plcL]))
  have HB6 := Lib.hid (below_then HB2.out HB2.out.size hBV)
  have c0 : V2.cell? ⟨W2.heap.size + 1, 0, none⟩ = some (.int .i64 (m : Int)) := by rw [blk_cell h4]; rfl
  have c1 : V2.cell? ⟨W2.heap.size + 1, 1, none⟩ = some (.slice (some ⟨W2.heap.size, 0, none⟩) 1 1) := by rw [blk_cell h4]; rfl
  clear hV2 hB hBV h3 h4 g7 hcF HO3 HB5 H1 H2 HB2
  go_upto_region 8 with (go_at_call 10; refine (run_any V2 m _ 1 [plcF i v n] HC.out (Nat.zero_lt_one) ⟨#[]⟩ 100 1000 (by decide) e1 o1 t1 HR1.out (by have := HMM.out; omega)).mono ?_; rintro e w2 ⟨rfl, hb2⟩; have HL2 := Lib.hid (Kd.C_below HL.out hb2); have HB7 := Lib.hid (below_then HB6.out HB6.out.size hb2); clear c0 c1 hb2)
  go_upto_region 9 with (fail)
  obtain ⟨V3, hV3⟩ : ∃ V3, V3 = ((w2.alloc (.cells #[.int .i64 e1, .string (strOfNums o1), .int .i64 t1] 33)).alloc (.cells #[.int .i64 0, .int .i64 0, .int .i64 0, .bool false, .slice (some ⟨w1.heap.size + 1, 0, none⟩) 4 4] 28)).alloc (.cells #[.int .i64 m, .slice (some ⟨w2.heap.size + 1, 0, none⟩) 1 1] 31) := ⟨_, rfl⟩
  rw [← hV3]
  have hB : Below w2.heap.size w2 V3 := by rw [hV3]; exact (((Below.refl _ _).alloc (Nat.le_refl _) _).alloc (by simp) _).alloc (by simp; omega) _
  have h1 : V3.heap[w2.heap.size]? = some (.cells #[.int .i64 e1, .string (strOfNums o1), .int .i64 t1] 33 (0, 0)) := by rw [hV3]; exact blk_alloc (blk_alloc (heap_alloc_new _ _) _) _
  have h2 : V3.heap[w2.heap.size + 1]? = some (.cells #[.int .i64 0, .int .i64 0, .int .i64 0, .bool false, .slice (some ⟨w1.heap.size + 1, 0, none⟩) 4 4] 28 (0, 0)) := by
    rw [hV3]
    exact blk_alloc ((congrArg (fun k => (World.alloc _ _).heap[k]?) (by simp)).trans (heap_alloc_new (w2.alloc _) _)) _
  have h3 : V3.heap[w2.heap.size + 1 + 1]? = some (.cells #[.int .i64 m, .slice (some ⟨w2.heap.size + 1, 0, none⟩) 1 1] 31 (0, 0)) := by
    rw [hV3]
    exact (congrArg (fun k => (World.alloc _ _).heap[k]?) (by simp)).trans (heap_alloc_new ((w2.alloc _).alloc _) _)
  have HC3 := Lib.hid (C28_one (x := plcG i n) h2 (Nat.le_refl 4) (Kd.C_below HL2.out hB))
  have HB8 := Lib.hid (below_then HB7.out HB7.out.size hB)
  have HX1 := Lib.hid h1
  have c0 : V3.cell? ⟨w2.heap.size + 1 + 1, 0, none⟩ = some (.int .i64 m) := by rw [blk_cell h3]; rfl
  have c1 : V3.cell? ⟨w2.heap.size + 1 + 1, 1, none⟩ = some (.slice (some ⟨w2.heap.size + 1, 0, none⟩) 1 1) := by rw [blk_cell h3]; rfl
  clear hV3 hB h1 h2 h3 HL HL2 HB6 HB7
  go_upto_region 10 with (go_at_call 10; refine (run_any V3 m _ 1 [plcG i n] HC3.out (Nat.zero_lt_one) ⟨#[]⟩ 100 1000 (by decide) e2 o2 t2 HR2.out (by have := HMM.out; omega)).mono ?_; rintro e w3 ⟨rfl, hb3⟩; have HX2 := Lib.hid (blk_below HX1.out hb3); have HB9 := Lib.hid (below_then HB8.out HB8.out.size hb3); clear c0 c1 hb3)
  obtain ⟨V4, hV4⟩ : ∃ V4, V4 = w3.alloc (.cells #[.int .i64 e2, .string (strOfNums o2), .int .i64 t2] 33) := ⟨_, rfl⟩
  rw [← hV4]
  have hB : Below w3.heap.size w3 V4 := by rw [hV4]; exact (Below.refl _ _).alloc (Nat.le_refl _) _
  have h1 := blk_below HX2.out hB
  have h2 : V4.heap[w3.heap.size]? = some (.cells #[.int .i64 e2, .string (strOfNums o2), .int .i64 t2] 33 (0, 0)) := by rw [hV4]; exact heap_alloc_new _ _
  have HB10 := Lib.hid (below_then HB9.out HB9.out.size hB)
  clear hV4 hB HX1 HX2 HB8 HB9 HC HC3 HR1 HR2
  have x0 : V4.cell? ⟨w2.heap.size, 0, none⟩ = some (.int .i64 e1) := by rw [blk_cell h1]; rfl
  have x1 : V4.cell? ⟨w2.heap.size, 1, none⟩ = some (.string (strOfNums o1)) := by rw [blk_cell h1]; rfl
  have x2 : V4.cell? ⟨w2.heap.size, 2, none⟩ = some (.int .i64 t1) := by rw [blk_cell h1]; rfl
  have y0 : V4.cell? ⟨w3.heap.size, 0, none⟩ = some (.int .i64 e2) := by rw [blk_cell h2]; rfl
  have y1 : V4.cell? ⟨w3.heap.size, 1, none⟩ = some (.string (strOfNums o2)) := by rw [blk_cell h2]; rfl
  have y2 : V4.cell? ⟨w3.heap.size, 2, none⟩ = some (.int .i64 t2) := by rw [blk_cell h2]; rfl
  clear h1 h2
  have d1 : (n : Int) % 4294967296 = n := by omega
  by_cases hin : i < n
  · obtain ⟨rfl, rfl, rfl, rfl, rfl, rfl⟩ := HR3.out hin
    have d2 : decide ((n : Int) ≤ i) = false := decide_eq_false (by omega)
    have hcv := str_of_block (W := V4.alloc (.cells #[.int .u8 v] 5)) (l := [v]) (heap_alloc_new V4 _) (by simp)
    rw [show ([v] : List Int).length = 1 from rfl] at hcv
    have s0 : strOfNums [0] = ⟨#[0]⟩ := by decide +kernel
    rw [s0] at y1
    have hBN : Below V4.heap.size V4 (V4.alloc (.cells #[.int .u8 v] 5)) := (Below.refl _ _).alloc (Nat.le_refl _) _
    have HB11 := Lib.hid (below_then HB10.out HB10.out.size hBN)
    have z0 := pw_cell_below hBN y0
    have z1 := pw_cell_below hBN y1
    have z2 := pw_cell_below hBN y2
    clear hBN s0 y0 y1 y2
    go_wp2_with fail
    go_ret
    exact ⟨rfl, HB11.out⟩
  · obtain ⟨rfl, rfl, rfl, rfl, rfl, rfl⟩ := HR4.out (by omega)
    have d2 : decide ((n : Int) ≤ i) = true := decide_eq_true (by omega)
    have s0 : strOfNums [] = ⟨#[]⟩ := by decide +kernel
    rw [s0] at x1 y1
    go_wp2_with fail
    go_ret
    exact ⟨rfl, HB10.out⟩
end Go.Proofs.Ytlngcolnjgloaaa
