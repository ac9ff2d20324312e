/- stack.Right says yes of a program that may be, and no of none. Conditions: it may be. -/
import Derived.Test.YtlngcolnjgloaaaFun
namespace Go.Proofs.Ytlngcolnjgloaaa
set_option linter.unusedVariables false
set_option linter.unusedSimpArgs false
open Go.RowKit Go.Proofs.YtlngcolnjgloaaaW.PrintWords PStackRuns

def rightP (sw : Int) (fs : List S28) : Prop :=
  0 ≤ sw ∧ sw ≤ 32768 ∧ 1 ≤ fs.length ∧ fs.length ≤ 64 ∧ (∀ f : Nat, f < fs.length → funP sw fs (f : Int)) ∧ (rd_T28 fs ((fs.length : Int) - 1)).f0 = 0 ∧ (rd_T28 fs ((fs.length : Int) - 1)).f3 = false

set_option maxHeartbeats 1000000 in
set_option maxRecDepth 100000 in
theorem right_yes (w0 : World) (sw : Int) (SA : Option Addr) (fs : List S28) (sc : Nat) (hC : k28.C w0 SA fs.length fs) (hsc : fs.length ≤ sc) (h : rightP sw fs) :
    Calls Try.prog 12 #[.agg #[.int .i64 sw, .slice SA fs.length sc]] w0 (YesPost w0) := by
  obtain ⟨h0, h1, h2, h3, hf, hz, hw⟩ := h
  have d0 : decide (sw < 0) = false := decide_eq_false (by omega)
  have d1 : decide ((32768 : Int) < sw) = false := decide_eq_false (by omega)
  have d2 : decide ((fs.length : Int) < 1) = false := decide_eq_false (by omega)
  have d3 : decide ((64 : Int) < (fs.length : Int)) = false := decide_eq_false (by omega)
  have d4 : IntKind.i64.wrap ((fs.length : Int) - 1) = (fs.length : Int) - 1 := IntWalk.i64_in _ (by omega)
  have l0 : (0 : Int) ≤ (fs.length : Int) - 1 := by omega
  have l1 : (fs.length : Int) - 1 < (fs.length : Int) := by omega
  have l2 : decide ((fs.length : Int) - 1 < (fs.length : Int)) = true := decide_eq_true l1
  have l3 : decide ((0 : Int) ≤ (fs.length : Int) - 1) = true := decide_eq_true l0
  obtain ⟨ad, A4, c4, hSA, q0, q1, q2, q3, q4, l4, g4⟩ := at_T28 hC ((fs.length : Int) - 1) l0 l1
  subst hSA
  rw [hz] at q0
  rw [hw] at q3
  clear q1 q2 q4 l4 g4 hz hw
  rw [show ((fs.length : Int) - 1).toNat = fs.length - 1 from by omega] at q0 q3
  obtain ⟨W1, hW1⟩ : ∃ W1, W1 = w0.alloc (.cells #[.int .i64 sw, .slice (some ad) fs.length sc] 31) := ⟨_, rfl⟩
  have hB1 : Below w0.heap.size w0 W1 := by rw [hW1]; exact (Below.refl _ _).alloc (Nat.le_refl _) _
  have hbox : W1.heap[w0.heap.size]? = some (.cells #[.int .i64 sw, .slice (some ad) fs.length sc] 31 (0, 0)) := by rw [hW1]; exact heap_alloc_new _ _
  have HC := Lib.hid hC
  have HF := Lib.hid hf
  have HQ := Lib.hid (And.intro q0 q3)
  have E1 := Lib.hid hW1
  have HB1 := Lib.hid hB1
  have HBX := Lib.hid hbox
  have b0 : W1.cell? ⟨w0.heap.size, 0, none⟩ = some (.int .i64 sw) := by rw [blk_cell hbox]; rfl
  have b1 : W1.cell? ⟨w0.heap.size, 1, none⟩ = some (.slice (some ad) fs.length sc) := by rw [blk_cell hbox]; rfl
  clear hC hf q0 q3 hW1 hB1 hbox
  go_enter Try.func12, Try.ntmps12
  go_upto_region 1 with (fail)
  rw [← E1.out]
  go_wp2_with fail
  clear b0 b1 d0 d1 d2 d3
  go_loopw [25] (fun v w' => ∃ j : Nat, j ≤ fs.length ∧ v = .int .i64 (j : Int) ∧ RowKit.Hid (w'.heap[w0.heap.size]? = some (.cells #[.int .i64 sw, .slice (some ad) fs.length sc] 31 (0, 0))) ∧ RowKit.Hid (Below w0.heap.size w0 w')) (fun v _ => fs.length - (intOf v).toNat)
  case atStart => exact ⟨0, Nat.zero_le _, rfl, HBX, HB1⟩
  case round =>
    obtain ⟨j, hjn, rfl, hbx, hb⟩ := hrel
    have b0 : wr.cell? ⟨w0.heap.size, 0, none⟩ = some (.int .i64 sw) := by rw [blk_cell hbx.out]; rfl
    have b1 : wr.cell? ⟨w0.heap.size, 1, none⟩ = some (.slice (some ad) fs.length sc) := by rw [blk_cell hbx.out]; rfl
    by_cases hj : j < fs.length
    · have hj0 : decide ((j : Int) < (fs.length : Int)) = true := decide_eq_true (by omega)
      have HFJ := Lib.hid (HF.out j hj)
      have hj1 : IntKind.i64.wrap ((j : Int) + 1) = (j : Int) + 1 := IntWalk.i64_in _ (by omega)
      have HC3 := Lib.hid (Kd.C_below HC.out hb.out)
      go_wp2_with (go_at_call 23; refine (fun_yes wr sw _ fs sc (j : Int) HC3.out hsc h0 (by omega) (by omega) (by omega) HFJ.out).mono ?_; rintro e w4 ⟨rfl, hb4⟩; have HB4 := Lib.hid (below_then hb.out hb.out.size hb4); have HBX4 := Lib.hid (blk_below hbx.out hb4); clear hb4 b0 b1)
      go_roundw
      case rel => exact ⟨j + 1, by omega, by go_num, HBX4, HB4⟩
      case measure => simp [intOf]; omega
    · have hj0 : decide ((j : Int) < (fs.length : Int)) = false := decide_eq_false (by omega)
      have q0 := pw_cell_below hb.out HQ.out.1
      have q3 := pw_cell_below hb.out HQ.out.2
      go_wp2_with fail
      go_ret
      exact ⟨rfl, hb.out⟩

set_option maxHeartbeats 1000000 in
set_option maxRecDepth 100000 in
theorem right_none (w0 : World) : Calls Try.prog 12 #[.agg #[.int .i64 0, .slice none 0 0]] w0 fun e w' => e = .returned (.bool false) ∧ Below w0.heap.size w0 w' := by
  go_enter Try.func12, Try.ntmps12
  go_wp2_with fail
  go_ret
  exact ⟨rfl, (Below.refl _ _).alloc (Nat.le_refl _) _⟩
end Go.Proofs.Ytlngcolnjgloaaa
