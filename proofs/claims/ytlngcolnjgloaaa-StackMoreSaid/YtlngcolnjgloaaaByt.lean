/- word.Bytes of one word. Conditions: it is a word. -/
import Derived.Test.YtlngcolnjgloaaaApn
import Derived.Test.YtlngcolnjgloaaaDoa
namespace Go.Proofs.Ytlngcolnjgloaaa
set_option linter.unusedVariables false
set_option linter.unusedSimpArgs false
open Go.RowKit Go.Proofs.YtlngcolnjgloaaaW.PrintWords PStackRuns

theorem reads_u8 {W : World} {g : Nat} {l : List Int} (h : W.heap[g]? = some (.cells (nums .u8 l).toArray 5 (0, 0))) (hm : l.length ≤ 9223372036854775807) : ReadsInt W .u8 (some ⟨g, 0, none⟩) l.length l := by
  refine ⟨rfl, hm, fun _ => ⟨_, rfl, fun j hj => ?_⟩⟩
  rw [add_plain, blk_cell h]
  simp [nums, List.getD_eq_getElem?_getD, List.getElem?_eq_getElem hj]

def four (x : Int) : List Int := [x % 256, x / 256 % 256, x / 65536 % 256, x / 16777216]
/-- What is there behind j rounds. -/
def bytesAt (x : Int) (j : Nat) : List Int := if j = 0 then [] else four x

set_option maxHeartbeats 4000000 in
set_option maxRecDepth 100000 in
theorem bytes_one (w : World) (g : Nat) (x : Int) (h0 : 0 ≤ x) (h1 : x < 4294967296) (hg : w.heap[g]? = some (.cells #[.int .u32 x] 22 (0, 0))) :
    Calls Try.prog 13 #[.slice (some ⟨g, 0, none⟩) 1 1] w fun e w' => e = .returned (.string (strOfNums (four x))) ∧ Below w.heap.size w w' := by
  have hmk : (Instr.makeSlice 46 (.int .i64 0) (.int .i64 4)).run Try.prog w = .ok (.slice (some ⟨w.heap.size, 0, none⟩) 0 4) (w.alloc (.cells (madeCells #[.int .u8 0] 4) 5)) := by
    obtain ⟨i0, hi, hzz⟩ := Option.map_eq_some_iff.1 info5
    simp only [Prod.mk.injEq] at hzz
    have := run_make (P := Try.prog) w 46 5 i0 (.int .u8 0) Try.underlying46 hi hzz.1 .i64 .i64 0 4 (by decide) (by decide) (by rw [hzz.2.2]; decide) (by decide)
    rw [hzz.2.1] at this
    exact this
  go_enter Try.func13, Try.ntmps13
  go_wp2_with fail
  have hO : (Kd.int .u8).R 5 (w.alloc (.cells (madeCells #[.int .u8 0] 4) 5)) w.heap.size (fun _ => True) (.slice (some ⟨w.heap.size, 0, none⟩) 0 4) (bytesAt x 0) :=
    ⟨fun _ _ => trivial, [], ⟨rfl, .inr ⟨w.heap.size, 4, _, rfl, Nat.le_refl _, heap_alloc_new _ _, Nat.zero_le 4, by decide, size_madeCells _ _, rfl⟩⟩, Reps.none _ _⟩
  have hB : Below w.heap.size w (w.alloc (.cells (madeCells #[.int .u8 0] 4) 5)) := (Below.refl _ _).alloc (Nat.le_refl _) _
  have HO := Lib.hid hO
  have HB := Lib.hid hB
  have HG := Lib.hid hg
  clear hO hB hg hmk
  go_loopw [3, 12] (fun v3 v12 w' => ∃ j : Nat, j ≤ 1 ∧ v12 = .int .i64 (j : Int) ∧ RowKit.Hid ((Kd.int .u8).R 5 w' w.heap.size (fun _ => True) v3 (bytesAt x j)) ∧ RowKit.Hid (Below w.heap.size w w')) (fun _ v _ => 1 - (intOf v).toNat)
  case atStart => exact ⟨0, by omega, rfl, HO, HB⟩
  case round =>
    obtain ⟨j, hj, rfl, hR, hB⟩ := hrel
    rcases (by omega : j = 0 ∨ j = 1) with rfl | rfl
    · have hR0 : (Kd.int .u8).R 5 wr w.heap.size (fun _ => True) _ [] := hR.out
      obtain ⟨A, c, e3⟩ : ∃ A c, _ = Value.slice A 0 c := Kd.R_slice hR0
      have HR := Lib.hid hR0
      clear hR hR0
      subst e3
      have hg := blk_below HG.out hB.out
      have y0 : wr.cell? ⟨g, 0, none⟩ = some (.int .u32 x) := by rw [blk_cell hg]; rfl
      have hbn : Below wr.heap.size wr (wr.alloc (.cells (nums .u8 (four x)).toArray 5)) := (Below.refl _ _).alloc (Nat.le_refl _) _
      have hRR : ReadsInt (wr.alloc (.cells (nums .u8 (four x)).toArray 5)) .u8 (some ⟨wr.heap.size, 0, none⟩) 4 (four x) := reads_u8 (l := four x) (heap_alloc_new _ _) (by simp [four])
      have hRC : ReadsRow (fun (p : Int) (cs : List Value) => cs = [.int .u8 p]) 1 (wr.alloc (.cells (nums .u8 (four x)).toArray 5)) (some ⟨wr.heap.size, 0, none⟩) 4 (four x) := ⟨hRR.1, hRR.2.1, fun h => by
        obtain ⟨ad, e, hc⟩ := hRR.2.2 h
        refine ⟨ad, e, fun j p hj => ⟨_, rfl, rfl, fun i u hu => ?_⟩⟩
        obtain ⟨hjl, hp⟩ := List.getElem?_eq_some_iff.1 hj
        have hi : i = 0 := by
          have := (List.getElem?_eq_some_iff.1 hu).1
          simpa using this
        subst hi
        have := hc j hjl
        simp at hu
        subst hu
        rw [Nat.mul_one, Nat.add_zero, this]
        simp [List.getD_eq_getElem?_getD, hj]⟩
      have HRC := Lib.hid hRC
      have HR2 := Lib.hid (Kd.R_below HR.out hbn)
      have HB2 := Lib.hid (below_then hB.out hB.out.size hbn)
      clear hRR hRC hbn hg HR
      go_upto_region 5 with (fail)
      go_wp2_with (at_builtin; go_loud (refine Kd.R_append_rows (Kd.int .u8) (Rr := fun (p : Int) (cs : List Value) => cs = [.int .u8 p]) w.heap.size rfl (.tmp 16) (.tmp 28) 46 5 (.int .u8 0) 1 rfl Try.underlying46 info5 rfl (by decide) (by decide) (.slice A 0 c) [] (four x) (some ⟨wr.heap.size, 0, none⟩) 4 4 (fun _ => True) (fun _ => False) rfl rfl HR2.out HRC.out (fun _ _ h => h) (fun _ h => h.elim) (fun _ _ => trivial) HB2.out HB2.out.size (by show (0 + 4) * 1 ≤ 140737488355328; decide) ?_))
      intro v1 W1 hR1 hB1 _ _
      have HR3 := Lib.hid (show (Kd.int .u8).R 5 W1 w.heap.size (fun _ => True) v1 (bytesAt x 1) from hR1)
      have HB3 := Lib.hid hB1
      clear hR1 hB1 y0 HRC HR2 HB2
      go_wp2_with fail
      go_roundw
      case rel => exact ⟨1, by omega, by go_num, HR3, HB3⟩
      case measure => simp [intOf]
    · have hR0 : (Kd.int .u8).R 5 wr w.heap.size (fun _ => True) _ (four x) := hR.out
      obtain ⟨A, c, e3⟩ : ∃ A c, _ = Value.slice A 4 c := Kd.R_slice hR0
      have HR := Lib.hid hR0
      clear hR hR0
      subst e3
      have hcv := Kd.C_string (P := Try.prog) (c := c) Try.underlying46 Try.underlying5 Try.underlying9 ((Kd.R_reads' HR.out).2).2
      have hcv' : (convert 46 9 (.slice A 4 c)).run Try.prog wr = .ok (.string (strOfNums (four x))) wr := hcv
      clear hcv
      go_wp2_with fail
      go_ret
      exact ⟨rfl, hB.out⟩
end Go.Proofs.Ytlngcolnjgloaaa
