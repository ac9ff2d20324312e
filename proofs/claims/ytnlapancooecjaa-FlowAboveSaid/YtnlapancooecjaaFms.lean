/- The statement FlowMust's call, from a graph that came in. Conditions: none beyond the row's reach. -/
import Derived.Test.YtnlapancooecjaaSml
import Derived.Test.YtnlapancooecjaaOpn
namespace Go.Proofs.Ytnlapancooecjaa
set_option linter.unusedVariables false
set_option linter.unusedSimpArgs false
open Go.RowKit Go.Proofs.YtnlapancooecjaaW.PrintWords

theorem opnRows : Opn Try.prog 22 (Kd.slice 28 (Kd.slice 3 (Kd.int .i64))) (fun xs => xs.length * 24 ≤ reachBytes ∧ ∀ x ∈ xs, x.length * 8 ≤ reachBytes ∧ ∀ y ∈ x, (Lit.int .i64 y).wf = true) :=
  Opn.slice Try.underlying22 (by kernel_rfl) (by kernel_rfl) (Opn.slice Try.underlying28 (by kernel_rfl) (by kernel_rfl) (Opn.int Try.underlying3))

/-- A graph that came in. -/
theorem graph_in {W : World} {a : Option Addr} {len cap : Nat} {next : List (List Int)} (hK : (Kd.slice 28 (Kd.slice 3 (Kd.int .i64))).K W next (Value.slice a len cap).cells.toList)
    (ok : next.length * 24 ≤ reachBytes ∧ ∀ x ∈ next, x.length * 8 ≤ reachBytes ∧ ∀ y ∈ x, (Lit.int .i64 y).wf = true) :
    len = next.length ∧ next.length ≤ cap ∧ (Kd.slice 3 (Kd.int .i64)).C W a next.length next ∧ next.length * 24 ≤ 140737488351232 ∧ ∀ b, (succs next b).length * 8 ≤ 140737488351232 := by
  obtain ⟨A, c, e, hl, hC⟩ := hK
  simp only [Value.cells, List.cons.injEq, Value.slice.injEq, and_true] at e
  obtain ⟨rfl, rfl, rfl⟩ := e
  refine ⟨rfl, hl, hC, ok.1, ?_⟩
  intro b
  unfold succs
  rw [List.getD_eq_getElem?_getD]
  cases h : next[b.toNat]? with
  | none => simp
  | some x => exact (ok.2 x (List.mem_of_getElem? h)).1

theorem flowMust_row (W : World) {a0 : Option Addr} {len0 cap0 : Nat} (next : List (List Int)) (hK : (Kd.slice 28 (Kd.slice 3 (Kd.int .i64))).K W next (Value.slice a0 len0 cap0).cells.toList)
    (ok : next.length * 24 ≤ reachBytes ∧ ∀ x ∈ next, x.length * 8 ≤ reachBytes ∧ ∀ y ∈ x, (Lit.int .i64 y).wf = true) (a : Int) (_ : (Lit.int .i64 a).wf = true) (b : Int) (_ : (Lit.int .i64 b).wf = true) :
    Calls Try.prog 5 #[.slice a0 len0 cap0, .int .i64 a, .int .i64 b] W (BoolPost W true) := by
  obtain ⟨rfl, hc, hC, hsz, hlen⟩ := graph_in hK ok
  exact flowMust_any W next a0 cap0 hc hC hsz hlen a b
end Go.Proofs.Ytnlapancooecjaa
