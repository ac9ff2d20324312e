/- awake() is true. Conditions: none. -/
import Derived.Test.YtlngcolnjgloaaaLay
import Derived.Test.YtlngcolnjgloaaaPStackRunsx5
namespace Go.Proofs.Ytlngcolnjgloaaa
set_option linter.unusedVariables false
set_option linter.unusedSimpArgs false
open Go.RowKit Go.Proofs.YtlngcolnjgloaaaW.PrintWords PStackRuns

def insA : List S25 := [⟨1, 0, 0, 65⟩, ⟨13, 0, 0, 0⟩, ⟨11, 0, 0, 0⟩]
def insB : List S25 := [⟨13, 0, 0, 0⟩, ⟨11, 0, 0, 0⟩]
def funA : S28 := ⟨0, 0, 0, false, insA⟩
def funB : S28 := ⟨0, 0, 0, false, insB⟩

theorem right_awake : rightP 0 [funA] := by
  refine ⟨by decide, by decide, by decide, by decide, fun f hf => ?_, by decide, by decide⟩
  obtain rfl : f = 0 := by simpa using hf
  exact ⟨by decide, by decide, by decide, by decide, by decide, by decide +kernel, 10, [0, 1, 0], by decide +kernel⟩

theorem size_awake : stack_Size.f 10 0 [funA] = some 3 := by decide +kernel

set_option maxHeartbeats 4000000 in
set_option maxRecDepth 100000 in
theorem awake_any (w : World) : Calls Try.prog 9 #[] w (YesPost w) := by
  obtain ⟨W1, hW1⟩ : ∃ W1, W1 = w.alloc (.cells #[.int .i64 1, .int .i64 0, .int .i64 0, .int .u32 65, .int .i64 13, .int .i64 0, .int .i64 0, .int .u32 0, .int .i64 11, .int .i64 0, .int .i64 0, .int .u32 0] 25) := ⟨_, rfl⟩
  have hB1 : Below w.heap.size w W1 := by rw [hW1]; exact (Below.refl _ _).alloc (Nat.le_refl _) _
  have hA1 : W1.heap[w.heap.size]? = some (.cells (fl25 insA).toArray 25 (0, 0)) := by rw [hW1]; exact heap_alloc_new _ _
  have E1 := Lib.hid hW1
  have HB1 := Lib.hid hB1
  have HA1 := Lib.hid hA1
  clear hW1 hB1 hA1
  have HI1 := Lib.hid (show ∀ (w1 : World) (g : Nat), w1.heap[g]? = some (.cells #[.int .i64 0, .int .i64 0, .int .i64 0, .bool false, .slice (some ⟨w.heap.size, 0, none⟩) 3 3] 28 (0, 0)) → Below W1.heap.size W1 w1 → k28.C w1 (some ⟨g, 0, none⟩) 1 [funA] ∧ Below w.heap.size w w1 from fun w1 g h1 h2 =>
    ⟨C28_one (x := funA) h1 (by decide) (C25 (l := insA) (blk_below HA1.out h2) (by decide)), below_then HB1.out HB1.out.size h2⟩)
  go_enter Try.func9, Try.ntmps9
  go_upto_region 2 with (go_at_call 17; rw [← E1.out]; refine (code_any W1 _ 3 3).mono ?_; rintro e w1 ⟨g1, rfl, hg1, hb1⟩; obtain ⟨hc, hb⟩ := HI1.out w1 g1 hg1 hb1; have HC := Lib.hid hc; have HB := Lib.hid hb; clear hg1 hb1 hc hb)
  obtain ⟨V1, hV1⟩ : ∃ V1, V1 = w1.alloc (.cells #[.int .i64 0, .slice (some ⟨g1, 0, none⟩) 1 1] 31) := ⟨_, rfl⟩
  rw [← hV1]
  have hb1 : Below w1.heap.size w1 V1 := by rw [hV1]; exact (Below.refl _ _).alloc (Nat.le_refl _) _
  have hbx : V1.heap[w1.heap.size]? = some (.cells #[.int .i64 0, .slice (some ⟨g1, 0, none⟩) 1 1] 31 (0, 0)) := by rw [hV1]; exact heap_alloc_new _ _
  have HC1 := Lib.hid (Kd.C_below HC.out hb1)
  have HBV := Lib.hid (below_then HB.out HB.out.size hb1)
  have HBX := Lib.hid hbx
  have c0 : V1.cell? ⟨w1.heap.size, 0, none⟩ = some (.int .i64 0) := by rw [blk_cell hbx]; rfl
  have c1 : V1.cell? ⟨w1.heap.size, 1, none⟩ = some (.slice (some ⟨g1, 0, none⟩) 1 1) := by rw [blk_cell hbx]; rfl
  have hs : strOfNums [65] = ⟨#[65]⟩ := str_awake
  have HS := Lib.hid hs
  clear hV1 hb1 hbx HC HB HI1 HA1 HB1 E1 hs
  go_upto_region 3 with (go_at_call 10; refine (run_any V1 0 _ 1 [funA] HC1.out (by decide) ⟨#[]⟩ 10 10 (by decide) 1 [65] 3 run_awake1 (by decide)).mono ?_; rintro e w2 ⟨rfl, hb2⟩; rw [HS.out]; have HBX2 := Lib.hid (blk_below HBX.out hb2); have HC2 := Lib.hid (Kd.C_below HC1.out hb2); have HB2 := Lib.hid (below_then HBV.out HBV.out.size hb2); clear hb2 c0 c1)
  obtain ⟨V2, hV2⟩ : ∃ V2, V2 = w2.alloc (.cells #[.int .i64 1, .string ⟨#[65]⟩, .int .i64 3] 33) := ⟨_, rfl⟩
  rw [← hV2]
  have hb2 : Below w2.heap.size w2 V2 := by rw [hV2]; exact (Below.refl _ _).alloc (Nat.le_refl _) _
  have hr2 : V2.heap[w2.heap.size]? = some (.cells #[.int .i64 1, .string ⟨#[65]⟩, .int .i64 3] 33 (0, 0)) := by rw [hV2]; exact heap_alloc_new _ _
  have HR2 := Lib.hid hr2
  have HBX3 := Lib.hid (blk_below HBX2.out hb2)
  have HC3 := Lib.hid (Kd.C_below HC2.out hb2)
  have HB3 := Lib.hid (below_then HB2.out HB2.out.size hb2)
  have c0 : V2.cell? ⟨w1.heap.size, 0, none⟩ = some (.int .i64 0) := by rw [blk_cell HBX3.out]; rfl
  have c1 : V2.cell? ⟨w1.heap.size, 1, none⟩ = some (.slice (some ⟨g1, 0, none⟩) 1 1) := by rw [blk_cell HBX3.out]; rfl
  clear hV2 hb2 hr2 HBX2 HC2 HB2 HBX HC1 HBV
  go_upto_region 4 with (go_at_call 10; refine (run_any V2 0 _ 1 [funA] HC3.out (by decide) ⟨#[]⟩ 2 10 (by decide) 5 [65] 2 run_awake2 (by decide)).mono ?_; rintro e w3 ⟨rfl, hb3⟩; rw [HS.out]; have HBX4 := Lib.hid (blk_below HBX3.out hb3); have HR4 := Lib.hid (blk_below HR2.out hb3); have HC4 := Lib.hid (Kd.C_below HC3.out hb3); have HB4 := Lib.hid (below_then HB3.out HB3.out.size hb3); clear hb3 c0 c1)
  obtain ⟨V3, hV3⟩ : ∃ V3, V3 = w3.alloc (.cells #[.int .i64 5, .string ⟨#[65]⟩, .int .i64 2] 33) := ⟨_, rfl⟩
  rw [← hV3]
  have hb3 : Below w3.heap.size w3 V3 := by rw [hV3]; exact (Below.refl _ _).alloc (Nat.le_refl _) _
  have hr3 : V3.heap[w3.heap.size]? = some (.cells #[.int .i64 5, .string ⟨#[65]⟩, .int .i64 2] 33 (0, 0)) := by rw [hV3]; exact heap_alloc_new _ _
  have HQ5 := Lib.hid hr3
  have HR5 := Lib.hid (blk_below HR4.out hb3)
  have HBX5 := Lib.hid (blk_below HBX4.out hb3)
  have HC5 := Lib.hid (Kd.C_below HC4.out hb3)
  have HB5 := Lib.hid (below_then HB4.out HB4.out.size hb3)
  have c0 : V3.cell? ⟨w1.heap.size, 0, none⟩ = some (.int .i64 0) := by rw [blk_cell HBX5.out]; rfl
  have c1 : V3.cell? ⟨w1.heap.size, 1, none⟩ = some (.slice (some ⟨g1, 0, none⟩) 1 1) := by rw [blk_cell HBX5.out]; rfl
  clear hV3 hb3 hr3 HBX4 HC4 HB4 HBX3 HC3 HB3 HR4 HR2
  go_upto_region 5 with (go_at_call 18; refine (depths_any V3 0 _ 1 [funA] 0 10 [0, 1, 0] true HC5.out (by decide) dep_awake1).mono ?_; rintro e w4 ⟨v4, rfl, hv4, hb4⟩; obtain ⟨A4, n4, rfl⟩ := Kd.R_slice hv4; have HV6 := Lib.hid hv4; have HBX6 := Lib.hid (blk_below HBX5.out hb4); have HQ6 := Lib.hid (blk_below HQ5.out hb4); have HR6 := Lib.hid (blk_below HR5.out hb4); have HC6 := Lib.hid (Kd.C_below HC5.out hb4); have HB6 := Lib.hid (below_then HB5.out HB5.out.size hb4); clear hb4 hv4 c0 c1 HQ5 HR5 HBX5 HC5 HB5)
  obtain ⟨g4, m4, e4, _, _, _⟩ := Kd.R_form HV6.out (by decide)
  injection e4 with e4 _ e4c
  subst e4
  subst e4c
  obtain ⟨V4, hV4⟩ : ∃ V4, V4 = w4.alloc (.cells #[.int .i64 13, .int .i64 0, .int .i64 0, .int .u32 0, .int .i64 11, .int .i64 0, .int .i64 0, .int .u32 0] 25) := ⟨_, rfl⟩
  have hb4 : Below w4.heap.size w4 V4 := by rw [hV4]; exact (Below.refl _ _).alloc (Nat.le_refl _) _
  have hbb : V4.heap[w4.heap.size]? = some (.cells (fl25 insB).toArray 25 (0, 0)) := by rw [hV4]; exact heap_alloc_new _ _
  have E4 := Lib.hid hV4
  have HI4 := Lib.hid (show ∀ (w5 : World) (g : Nat), w5.heap[g]? = some (.cells #[.int .i64 0, .int .i64 0, .int .i64 0, .bool false, .slice (some ⟨w4.heap.size, 0, none⟩) 2 2] 28 (0, 0)) → Below V4.heap.size V4 w5 → k28.C w5 (some ⟨g, 0, none⟩) 1 [funB] ∧ Below w4.heap.size w4 w5 from fun w5 g h1 h2 =>
    ⟨C28_one (x := funB) h1 (by decide) (C25 (l := insB) (blk_below hbb h2) (by decide)), below_then hb4 hb4.size h2⟩)
  clear hV4 hb4 hbb
  have HI7 := Lib.hid (show ∀ w6 : World, Below w4.heap.size w4 w6 → w6.cell? ⟨g4, 0, none⟩ = some (.int .i64 0) ∧ w6.cell? ⟨g4, 1, none⟩ = some (.int .i64 1) ∧ w6.cell? ⟨g4, 2, none⟩ = some (.int .i64 0) from fun w6 hb => by
    have hr := (Kd.R_reads' HV6.out).2.2
    obtain ⟨a0, ea, k0⟩ := Kd.at_int hr 0 (by decide) (by decide)
    injection ea with ea
    subst ea
    obtain ⟨a1, ea, k1⟩ := Kd.at_int hr 1 (by decide) (by decide)
    injection ea with ea
    subst ea
    obtain ⟨a2, ea, k2⟩ := Kd.at_int hr 2 (by decide) (by decide)
    injection ea with ea
    subst ea
    rw [add_plain] at k0 k1 k2
    exact ⟨pw_cell_below hb k0, pw_cell_below hb k1, pw_cell_below hb k2⟩)
  go_upto_region 6 with (first | (go_at_call 17; rw [← E4.out]; refine (code_any V4 _ 2 2).mono ?_; rintro e w5 ⟨g5, rfl, hg5, hb5⟩; obtain ⟨hc5, hb5'⟩ := HI4.out w5 g5 hg5 hb5; have HC55 := Lib.hid hc5; have HB55 := Lib.hid hb5'; clear hg5 hb5 hc5 hb5') | (go_at_call 18; refine (depths_any _ 0 _ 1 [funB] 0 10 [] false HC55.out (by decide) dep_awake2).mono ?_; rintro e w6 ⟨v6, rfl, _, hb6⟩; have HB56 := Lib.hid (below_then HB55.out HB55.out.size hb6); clear hb6))
  have HBX7 := Lib.hid (blk_below HBX6.out HB56.out)
  have HR7 := Lib.hid (blk_below HR6.out HB56.out)
  have HQ7 := Lib.hid (blk_below HQ6.out HB56.out)
  have HC7 := Lib.hid (Kd.C_below HC6.out HB56.out)
  have HB7 := Lib.hid (below_then HB6.out HB6.out.size HB56.out)
  obtain ⟨z0, z1, z2⟩ := HI7.out w6 HB56.out
  clear HBX6 HR6 HQ6 HC6 HB6 HB55 HC55 HI4 HI7 HV6 E4
  have y0 : w6.cell? ⟨w2.heap.size, 0, none⟩ = some (.int .i64 1) := by rw [blk_cell HR7.out]; rfl
  have y1 : w6.cell? ⟨w2.heap.size, 1, none⟩ = some (.string ⟨#[65]⟩) := by rw [blk_cell HR7.out]; rfl
  have y2 : w6.cell? ⟨w2.heap.size, 2, none⟩ = some (.int .i64 3) := by rw [blk_cell HR7.out]; rfl
  have x0 : w6.cell? ⟨w3.heap.size, 0, none⟩ = some (.int .i64 5) := by rw [blk_cell HQ7.out]; rfl
  have x1 : w6.cell? ⟨w3.heap.size, 1, none⟩ = some (.string ⟨#[65]⟩) := by rw [blk_cell HQ7.out]; rfl
  have x2 : w6.cell? ⟨w3.heap.size, 2, none⟩ = some (.int .i64 2) := by rw [blk_cell HQ7.out]; rfl
  have c0 : w6.cell? ⟨w1.heap.size, 0, none⟩ = some (.int .i64 0) := by rw [blk_cell HBX7.out]; rfl
  have c1 : w6.cell? ⟨w1.heap.size, 1, none⟩ = some (.slice (some ⟨g1, 0, none⟩) 1 1) := by rw [blk_cell HBX7.out]; rfl
  go_wp2_with (first | (go_at_call 12; (with_reducible show Calls Try.prog 12 #[.agg #[.int .i64 0, .slice (some ⟨g1, 0, none⟩) 1 1]] _ _); refine (right_yes w6 0 _ [funA] 1 HC7.out (by decide) right_awake).mono ?_; rintro e w7 ⟨rfl, hb7⟩; clear y0 y1 y2 x0 x1 x2 z0 z1 z2 c0 c1; have hbx8 := blk_below HBX7.out hb7; have HC8 := Lib.hid (Kd.C_below HC7.out hb7); have HB8 := Lib.hid (below_then HB7.out HB7.out.size hb7); have HBX8 := Lib.hid hbx8; clear hb7 hbx8) | (go_at_call 12; (with_reducible show Calls Try.prog 12 #[.agg #[.int .i64 0, .slice none 0 0]] _ _); refine (right_none w7).mono ?_; rintro e w8 ⟨rfl, hb8⟩; have HC9 := Lib.hid (Kd.C_below HC8.out hb8); have HB9 := Lib.hid (below_then HB8.out HB8.out.size hb8); have hbx9 := blk_below HBX8.out hb8; have c0 : w8.cell? ⟨w1.heap.size, 0, none⟩ = some (.int .i64 0) := (by rw [blk_cell hbx9]; rfl); have c1 : w8.cell? ⟨w1.heap.size, 1, none⟩ = some (.slice (some ⟨g1, 0, none⟩) 1 1) := (by rw [blk_cell hbx9]; rfl); clear hb8 hbx9) | (go_at_call 19; refine (stack_Size.calls 10 0 _ 1 [funA] 3 w8 HC9.out (by decide) size_awake).mono ?_; rintro e w9 ⟨rfl, hb9⟩; have HB10 := Lib.hid (below_then HB9.out HB9.out.size hb9); clear hb9 c0 c1))
  go_ret
  exact ⟨rfl, HB10.out⟩
end Go.Proofs.Ytlngcolnjgloaaa
