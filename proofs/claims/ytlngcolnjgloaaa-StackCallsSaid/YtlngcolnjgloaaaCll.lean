/- The run of StackCalls' program, and that it may be. Conditions: words are words. -/
import Derived.Test.YtlngcolnjgloaaaStp
import Derived.Test.YtlngcolnjgloaaaRgt
namespace Go.Proofs.Ytlngcolnjgloaaa
set_option linter.unusedVariables false
set_option linter.unusedSimpArgs false
open Go.RowKit Go.Proofs.YtlngcolnjgloaaaW.PrintWords PStackRuns

def cllC (c : Int) : List S25 := [⟨2, 1, 0, 0⟩, ⟨2, 2, 0, 0⟩, ⟨6, 5, 0, 0⟩, ⟨2, 3, 0, 0⟩, ⟨6, 5, 0, 0⟩, ⟨1, 0, 0, c⟩, ⟨3, 3, 0, 0⟩, ⟨11, 0, 0, 0⟩]
def cllH (a b : Int) : List S25 := [⟨1, 0, 0, a⟩, ⟨1, 0, 0, b⟩, ⟨10, 0, 0, 0⟩, ⟨13, 0, 0, 0⟩]
def cllE : List S25 := [⟨11, 0, 0, 0⟩]
def cllF (c : Int) : S28 := ⟨2, 3, 1, true, cllC c⟩
def cllG (a b : Int) : S28 := ⟨0, 0, 0, false, [⟨1, 0, 0, a⟩, ⟨1, 0, 0, b⟩, ⟨10, 0, 0, 0⟩, ⟨13, 0, 0, 0⟩, ⟨1, 0, 0, a⟩, ⟨1, 0, 0, b⟩, ⟨10, 0, 0, 0⟩, ⟨13, 0, 0, 0⟩, ⟨11, 0, 0, 0⟩]⟩

theorem cll_half (a b c u0 u1 u2 u3 : Int) (out : List Int) (p : Int) (hp : p = 0 ∨ p = 4) (ho : (out.length : Int) < 65536) :
    stepsF [cllF c, cllG a b] 12 ⟨[u0, u1, u2, u3], ⟨#[]⟩, out, [⟨cllG a b, p, []⟩], 0⟩ = some ⟨[u0, a, b, c], ⟨#[]⟩, out ++ [((a - b) % 4294967296 - 0) % 4294967296 % 256], [⟨cllG a b, p + 4, []⟩], 0⟩ := by
  have hs : ∀ x y : Int, word_Apply.f 1 5 x y = some ((x - y) % 4294967296, 0) := fun x y => by simp [word_Apply.f]
  have hm : ¬ (65536 : Int) ≤ out.length := by omega
  rcases hp with rfl | rfl <;> simp [stepsF, stepF, doF, callF, layF, splice, cllF, cllC, cllG, rd_T25, rd_T28, rdOf, rd, hs, hm]

theorem cll_run (a b c : Int) (K : Nat) (hK : 100 ≤ K) :
    runF 4 [cllF c, cllG a b] ⟨#[]⟩ 100 K = some (1, [(a - b) % 4294967296 % 256, (a - b) % 4294967296 % 256], 25) := by
  have hc : callF [cllF c, cllG a b] (([cllF c, cllG a b].length : Int) - 1) [] ⟨List.replicate (4 : Int).toNat 0, ⟨#[]⟩, [], [], 0⟩ = some ⟨[0, 0, 0, 0], ⟨#[]⟩, [], [⟨cllG a b, 0, []⟩], 0⟩ := by
    rfl
  have h1 := cll_half a b c 0 0 0 0 [] 0 (.inl rfl) (by simp)
  have h2 := cll_half a b c 0 a b c ([] ++ [((a - b) % 4294967296 - 0) % 4294967296 % 256]) 4 (.inr rfl) (by simp)
  have h3 : ∀ out, stepsF [cllF c, cllG a b] 1 ⟨[0, a, b, c], ⟨#[]⟩, out, [⟨cllG a b, 4 + 4, []⟩], 0⟩ = some ⟨[0, a, b, c], ⟨#[]⟩, out, [], 1⟩ := fun out => by
    simp [stepsF, stepF, doF, cllG, rd_T25, rdOf]
  obtain ⟨k, rfl⟩ : ∃ k, K = (((k + 1) + 1) + 12) + 12 := ⟨K - 26, by omega⟩
  unfold runF
  rw [hc, Option.bind_some, loop_steps _ _ 12 _ _ _ _ h1 (by omega)]
  rw [show (0 : Int) + 4 = 4 from rfl] 
  rw [loop_steps _ _ 12 _ _ _ _ h2 (by omega), loop_steps _ _ 1 _ _ _ _ (h3 _) (by omega), loop_end _ _ _ _ _ (by show (1 : Int) ≠ 0; decide)]
  simp

theorem right_cll (a b c : Int) : rightP 4 [cllF c, cllG a b] := by
  refine ⟨by decide, by decide, of_decide_eq_true (by kernel_rfl), of_decide_eq_true (by kernel_rfl), fun f hf => ?_, by kernel_rfl, by kernel_rfl⟩
  have hf' : f < 2 := hf
  rcases (by omega : f = 0 ∨ f = 1) with rfl | rfl
  · exact ⟨of_decide_eq_true (by kernel_rfl), of_decide_eq_true (by kernel_rfl), of_decide_eq_true (by kernel_rfl), of_decide_eq_true (by kernel_rfl), of_decide_eq_true (by kernel_rfl), of_decide_eq_true (by kernel_rfl), 100, [0, 1, 2, 1, 2, 1, 2, 1], by kernel_rfl⟩
  · exact ⟨of_decide_eq_true (by kernel_rfl), of_decide_eq_true (by kernel_rfl), of_decide_eq_true (by kernel_rfl), of_decide_eq_true (by kernel_rfl), of_decide_eq_true (by kernel_rfl), of_decide_eq_true (by kernel_rfl), 100, [0, 1, 2, 1, 0, 1, 2, 1, 0], by kernel_rfl⟩
end Go.Proofs.Ytlngcolnjgloaaa
