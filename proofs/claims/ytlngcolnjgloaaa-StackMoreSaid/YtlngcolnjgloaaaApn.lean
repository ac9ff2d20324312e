/- Blocks of instructions as rows of the call's own, for append. Conditions: none. -/
import Derived.Test.YtlngcolnjgloaaaLay
namespace Go.Proofs.Ytlngcolnjgloaaa
set_option linter.unusedVariables false
set_option linter.unusedSimpArgs false
open Go.RowKit Go.Proofs.YtlngcolnjgloaaaW.PrintWords PStackRuns

theorem info25 : (Try.prog.info? 25).map (fun i => (i.zero, i.size, i.bytes)) = some (some (.agg #[.int .i64 0, .int .i64 0, .int .i64 0, .int .u32 0]), 4, 32) := by kernel_rfl

theorem fl25_length (l : List S25) : (fl25 l).length = l.length * 4 := by
  induction l with
  | nil => rfl
  | cons x l ih => simp only [fl25, List.length_cons, ih]; omega

theorem fl25_cut : ∀ (l : List S25) (j : Nat) (p : S25), l[j]? = some p → ((fl25 l).drop (j * 4)).take 4 = [.int .i64 p.f0, .int .i64 p.f1, .int .i64 p.f2, .int .u32 p.f3] := by
  intro l
  induction l with
  | nil => intro j p h; simp at h
  | cons x l ih =>
    intro j p h
    cases j with
    | zero => simp at h; subst h; rfl
    | succ j =>
      have h' : l[j]? = some p := by simpa using h
      have := ih j p h'
      rw [show (j + 1) * 4 = j * 4 + 1 + 1 + 1 + 1 by omega]
      exact this

theorem own25 {W : World} {base g : Nat} {l : List S25} {ok : Nat → Prop} (h : W.heap[g]? = some (.cells (fl25 l).toArray 25 (0, 0))) (hb : base ≤ g) (hok : ok g) (hm : l.length ≤ 9223372036854775807) :
    k25.R 25 W base ok (.slice (some ⟨g, 0, none⟩) l.length l.length) l := by
  have hl := fl25_length l
  refine ⟨fun k hk => ?_, fl25 l, ⟨hl, .inr ⟨g, l.length, _, rfl, hb, h, Nat.le_refl _, hm, ?_, ?_⟩⟩, hl, fun j p hj => ?_⟩
  · have : g = k := by simpa [Value.ownBlock] using hk
    exact this ▸ hok
  · show (fl25 l).toArray.size = l.length * 4
    simpa using hl
  · show (fl25 l).toArray.toList.take (l.length * 4) = _
    rw [← hl]
    simp [List.take_of_length_le]
  · rw [show k25.sz = 4 from rfl, fl25_cut l j p hj]
    exact k25_mkM _ _ _ _

/-- string(b) of a block of bytes. -/
theorem str_of_block {W : World} {g : Nat} {l : List Int} (h : W.heap[g]? = some (.cells (nums .u8 l).toArray 5 (0, 0))) (hm : l.length ≤ 9223372036854775807) :
    (convert 46 9 (.slice (some ⟨g, 0, none⟩) l.length l.length)).run Try.prog W = .ok (.string (strOfNums l)) W := by
  refine string_of_reads Try.underlying46 Try.underlying5 Try.underlying9 ⟨rfl, hm, fun _ => ⟨_, rfl, fun j hj => ?_⟩⟩
  rw [add_plain, blk_cell h]
  simp [nums, List.getD_eq_getElem?_getD, List.getElem?_eq_getElem hj]
end Go.Proofs.Ytlngcolnjgloaaa
