/- StackEcho is true at any input. Conditions: none. -/
import Derived.Test.YtlngcolnjgloaaaAwk
import Derived.Test.YtlngcolnjgloaaaStp
namespace Go.Proofs.Ytlngcolnjgloaaa
set_option linter.unusedVariables false
set_option linter.unusedSimpArgs false
open Go.RowKit Go.Proofs.YtlngcolnjgloaaaW.PrintWords PStackRuns

theorem echo_run (inp : ByteArray) (h : inp.size ≤ 100) (K : Nat) (hK : 1000 ≤ K) : runF 1 [echoF] inp 2000 K = some (1, bytesOf inp, 9 * inp.size + 7) := by
  have hc : callF [echoF] (([echoF].length : Int) - 1) [] ⟨List.replicate (1 : Int).toNat 0, inp, [], [], 0⟩ = some ⟨[0], inp, [], [⟨echoF, 0, []⟩], 0⟩ := by
    rfl
  have h1 := echo_loop inp.size inp 0 [] 0 K rfl h (by simp; omega) (by omega) (by omega)
  unfold runF
  rw [hc, Option.bind_some, h1, List.nil_append, Nat.zero_add]

theorem str_bytes (inp : ByteArray) : strOfNums (bytesOf inp) = inp := by
  unfold strOfNums bytesOf
  rw [List.map_map]
  have : (inp.data.toList.map ((fun n : Int => UInt8.ofNat n.toNat) ∘ fun b : UInt8 => (b.toNat : Int))) = inp.data.toList := by
    conv => rhs; rw [← List.map_id inp.data.toList]
    apply List.map_congr_left
    intro b _
    simp
  rw [this]

theorem right_echo : rightP 1 [echoF] := by
  refine ⟨by decide, by decide, by decide, by decide, fun f hf => ?_, by decide, by decide⟩
  obtain rfl : f = 0 := by simpa using hf
  exact ⟨by decide, by decide, by decide, by decide, by decide, by decide +kernel, 100, [0, 1, 0, 1, 2, 1, 0, 1, 0, 0], by decide +kernel⟩

set_option maxHeartbeats 4000000 in
set_option maxRecDepth 100000 in
theorem echo_row (W : World) (a : ByteArray) (ha : a.size ≤ 140737488351232) : Calls Try.prog 8 #[.string a] W (YesPost W) := by
  by_cases hs : a.size ≤ 100
  · have d0 : decide ((100 : Int) < (a.size : Int)) = false := decide_eq_false (by omega)
    have HRUN := Lib.hid (echo_run a hs 1000 (by omega))
    have HSTR := Lib.hid (str_bytes a)
    have w0 : IntKind.i64.wrap (9 * (a.size : Int)) = 9 * (a.size : Int) := IntWalk.i64_in _ (by omega)
    have w1 : IntKind.i64.wrap (9 * (a.size : Int) + 7) = 9 * (a.size : Int) + 7 := IntWalk.i64_in _ (by omega)
    go_enter Try.func8, Try.ntmps8
    go_upto_region 3 with (go_at_call 9; refine (awake_any W).mono ?_; rintro e w1 ⟨rfl, hb1⟩; have HB1 := Lib.hid hb1; clear hb1)
    obtain ⟨V1, hV1⟩ : ∃ V1, V1 = (w1.alloc (.cells #[.int .i64 12, .int .i64 0, .int .i64 0, .int .u32 0, .int .i64 3, .int .i64 0, .int .i64 0, .int .u32 0, .int .i64 2, .int .i64 0, .int .i64 0, .int .u32 0, .int .i64 1, .int .i64 0, .int .i64 0, .int .u32 256, .int .i64 6, .int .i64 14, .int .i64 0, .int .u32 0, .int .i64 9, .int .i64 9, .int .i64 0, .int .u32 0, .int .i64 2, .int .i64 0, .int .i64 0, .int .u32 0, .int .i64 13, .int .i64 0, .int .i64 0, .int .u32 0, .int .i64 8, .int .i64 0, .int .i64 0, .int .u32 0, .int .i64 11, .int .i64 0, .int .i64 0, .int .u32 0] 25)).alloc (.cells #[.int .i64 0, .int .i64 0, .int .i64 0, .bool false, .slice (some ⟨w1.heap.size, 0, none⟩) 10 10] 28) := ⟨_, rfl⟩
    have hB : Below w1.heap.size w1 V1 := by rw [hV1]; exact ((Below.refl _ _).alloc (Nat.le_refl _) _).alloc (by simp) _
    have h1 : V1.heap[w1.heap.size]? = some (.cells (fl25 echoC).toArray 25 (0, 0)) := by rw [hV1]; exact blk_alloc (heap_alloc_new w1 _) _
    have h2 : V1.heap[w1.heap.size + 1]? = some (.cells #[.int .i64 0, .int .i64 0, .int .i64 0, .bool false, .slice (some ⟨w1.heap.size, 0, none⟩) 10 10] 28 (0, 0)) := by
      rw [hV1]
      exact (congrArg (fun k => (World.alloc _ _).heap[k]?) (by simp)).trans (heap_alloc_new (w1.alloc _) _)
    have hc := C28_one (x := echoF) h2 (by decide) (C25 (l := echoC) h1 (by decide))
    have HC1 := Lib.hid hc
    have E1 := Lib.hid hV1
    have HB2 := Lib.hid (below_then HB1.out HB1.out.size hB)
    clear hB h1 h2 hc hV1
    obtain ⟨V2, hV2⟩ : ∃ V2, V2 = V1.alloc (.cells #[.int .i64 1, .slice (some ⟨w1.heap.size + 1, 0, none⟩) 1 1] 31) := ⟨_, rfl⟩
    have hB : Below V1.heap.size V1 V2 := by rw [hV2]; exact (Below.refl _ _).alloc (Nat.le_refl _) _
    have hx : V2.heap[V1.heap.size]? = some (.cells #[.int .i64 1, .slice (some ⟨w1.heap.size + 1, 0, none⟩) 1 1] 31 (0, 0)) := by rw [hV2]; exact heap_alloc_new _ _
    have HC2 := Lib.hid (Kd.C_below HC1.out hB)
    have HB3 := Lib.hid (below_then HB2.out HB2.out.size hB)
    have HX := Lib.hid hx
    have E2 := Lib.hid hV2
    have ESZ := Lib.hid (show V1.heap.size = w1.heap.size + 1 + 1 from by rw [E1.out]; simp)
    clear hB hx hV2
    go_upto_region 7 with (fail)
    rw [← E1.out, ← E2.out]
    have hx := HX.out
    rw [ESZ.out] at hx
    have HX3 := Lib.hid hx
    have c0 : V2.cell? ⟨w1.heap.size + 1 + 1, 0, none⟩ = some (.int .i64 1) := by rw [blk_cell hx]; rfl
    have c1 : V2.cell? ⟨w1.heap.size + 1 + 1, 1, none⟩ = some (.slice (some ⟨w1.heap.size + 1, 0, none⟩) 1 1) := by rw [blk_cell hx]; rfl
    have HST := Lib.hid (show ((9 * a.size + 7 : Nat) : Int) = 9 * (a.size : Int) + 7 from by omega)
    clear hx
    go_wp2_with (first | (go_at_call 12; refine (right_yes V2 1 _ [echoF] 1 HC2.out (by decide) right_echo).mono ?_; rintro e w2 ⟨rfl, hb2⟩; have HC3 := Lib.hid (Kd.C_below HC2.out hb2); have HB4 := Lib.hid (below_then HB3.out HB3.out.size hb2); have hx4 := blk_below HX3.out hb2; clear c0 c1; have c0 : w2.cell? ⟨w1.heap.size + 1 + 1, 0, none⟩ = some (.int .i64 1) := (by rw [blk_cell hx4]; rfl); have c1 : w2.cell? ⟨w1.heap.size + 1 + 1, 1, none⟩ = some (.slice (some ⟨w1.heap.size + 1, 0, none⟩) 1 1) := (by rw [blk_cell hx4]; rfl); clear hb2 hx4) | (go_at_call 10; refine (run_any w2 1 _ 1 [echoF] HC3.out (by decide) a 2000 1000 (by decide) 1 (bytesOf a) (9 * a.size + 7) HRUN.out (by decide)).mono ?_; rintro e w3 ⟨rfl, hb3⟩; rw [HSTR.out, HST.out]; have HB5 := Lib.hid (below_then HB4.out HB4.out.size hb3); clear hb3 c0 c1))
    go_ret
    exact ⟨rfl, HB5.out⟩
  · have d0 : decide ((100 : Int) < (a.size : Int)) = true := decide_eq_true (by omega)
    go_enter Try.func8, Try.ntmps8
    go_wp2_with (go_at_call 9; refine (awake_any W).mono ?_; rintro e w1 ⟨rfl, hb1⟩; have HB1 := Lib.hid hb1; clear hb1)
    go_ret
    exact ⟨rfl, HB1.out⟩
end Go.Proofs.Ytlngcolnjgloaaa
