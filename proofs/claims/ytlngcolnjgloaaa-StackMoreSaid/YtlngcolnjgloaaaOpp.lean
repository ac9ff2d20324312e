/- The run of StackOps' program, and that it may be. Conditions: words are words, the operation is one. -/
import Derived.Test.YtlngcolnjgloaaaPlc
import Derived.Test.YtlngcolnjgloaaaRgt
import Derived.Test.YtlngcolnjgloaaaByt
namespace Go.Proofs.Ytlngcolnjgloaaa
set_option linter.unusedVariables false
set_option linter.unusedSimpArgs false
open Go.RowKit Go.Proofs.YtlngcolnjgloaaaW.PrintWords PStackRuns

def oppR (i : Nat) : List S25 := [⟨2, 0, 0, 0⟩, ⟨1, 0, 0, 8 * (i : Int)⟩, ⟨6, 13, 0, 0⟩, ⟨13, 0, 0, 0⟩]
def oppH (k a b : Int) : List S25 := [⟨1, 0, 0, a⟩, ⟨1, 0, 0, b⟩, ⟨6, k, 0, 0⟩, ⟨3, 0, 0, 0⟩]
/-- The code behind j rounds. -/
def oppC (k a b : Int) : Nat → List S25
  | 0 => oppH k a b
  | j + 1 => oppC k a b j ++ oppR j
def oppF (k a b : Int) : S28 := ⟨0, 0, 0, false, [⟨1, 0, 0, a⟩, ⟨1, 0, 0, b⟩, ⟨6, k, 0, 0⟩, ⟨3, 0, 0, 0⟩,
  ⟨2, 0, 0, 0⟩, ⟨1, 0, 0, 0⟩, ⟨6, 13, 0, 0⟩, ⟨13, 0, 0, 0⟩, ⟨2, 0, 0, 0⟩, ⟨1, 0, 0, 8⟩, ⟨6, 13, 0, 0⟩, ⟨13, 0, 0, 0⟩,
  ⟨2, 0, 0, 0⟩, ⟨1, 0, 0, 16⟩, ⟨6, 13, 0, 0⟩, ⟨13, 0, 0, 0⟩, ⟨2, 0, 0, 0⟩, ⟨1, 0, 0, 24⟩, ⟨6, 13, 0, 0⟩, ⟨13, 0, 0, 0⟩, ⟨11, 0, 0, 0⟩]⟩
theorem oppC_len (k a b : Int) (j : Nat) : (oppC k a b j).length = 4 + 4 * j := by
  induction j with
  | zero => rfl
  | succ j ih => simp only [oppC, List.length_append, ih]; simp [oppR]; omega
theorem oppC_four (k a b : Int) : oppC k a b 4 ++ [⟨11, 0, 0, 0⟩] = (oppF k a b).f4 := rfl

theorem right_opp (k a b : Int) (h0 : 4 ≤ k) (h1 : k ≤ 15) : rightP 1 [oppF k a b] := by
  refine ⟨by decide, by decide, by simp, by simp, fun f hf => ?_, by kernel_rfl, by kernel_rfl⟩
  obtain rfl : f = 0 := by simpa using hf
  refine ⟨of_decide_eq_true (by kernel_rfl), of_decide_eq_true (by kernel_rfl), of_decide_eq_true (by kernel_rfl), of_decide_eq_true (by kernel_rfl), of_decide_eq_true (by kernel_rfl), ?_, 100, [0, 1, 2, 1, 0, 1, 2, 1, 0, 1, 2, 1, 0, 1, 2, 1, 0, 1, 2, 1, 0], by kernel_rfl⟩
  intro i hi
  have hi' : i ∈ (oppF k a b).f4 := hi
  simp only [oppF, List.mem_cons, List.not_mem_nil, or_false] at hi'
  rcases hi' with rfl | rfl | rfl | rfl | rfl | rfl | rfl | rfl | rfl | rfl | rfl | rfl | rfl | rfl | rfl | rfl | rfl | rfl | rfl | rfl | rfl <;> simp [fitP, h0, h1]

theorem u32_range (n : Int) : 0 ≤ IntKind.u32.wrap n ∧ IntKind.u32.wrap n < 4294967296 := by
  have h : IntKind.u32.wrap n = n % 4294967296 := rfl
  omega

/-- What an operation answers. -/
theorem apply_some (k a b : Int) (h0 : 4 ≤ k) (h1 : k ≤ 15) (a0 : 0 ≤ a) (a1 : a < 4294967296) (b0 : 0 ≤ b) (b1 : b < 4294967296) :
    ∃ v e, word_Apply.f 1 k a b = some (v, e) ∧ 0 ≤ v ∧ v < 4294967296 := by
  unfold word_Apply.f
  by_cases e7 : k = 7
  · rw [if_pos e7]
    simp only [word_Apply.j0]
    by_cases hb : b = 0
    · rw [if_pos hb]; exact ⟨_, _, rfl, by omega, by omega⟩
    · rw [if_neg hb]
      have h2 := Int.emod_lt_of_pos a (show 0 < b by omega)
      have h3 := Int.emod_nonneg a (show b ≠ 0 by omega)
      by_cases f7 : k = 7
      · rw [if_pos f7]; exact ⟨_, _, rfl, by omega, by omega⟩
      · rw [if_neg f7, Int.tmod_eq_emod_of_nonneg a0]; exact ⟨_, _, rfl, h3, by omega⟩
  rw [if_neg e7]
  by_cases e8 : k = 8
  · rw [if_pos e8]
    simp only [word_Apply.j0]
    by_cases hb : b = 0
    · rw [if_pos hb]; exact ⟨_, _, rfl, by omega, by omega⟩
    · rw [if_neg hb]
      have h2 := Int.emod_lt_of_pos a (show 0 < b by omega)
      have h3 := Int.emod_nonneg a (show b ≠ 0 by omega)
      by_cases f7 : k = 7
      · rw [if_pos f7]; exact ⟨_, _, rfl, by omega, by omega⟩
      · rw [if_neg f7, Int.tmod_eq_emod_of_nonneg a0]; exact ⟨_, _, rfl, h3, by omega⟩
  rw [if_neg e8]
  by_cases e4 : k = 4
  · rw [if_pos e4]; exact ⟨_, _, rfl, by omega, by omega⟩
  rw [if_neg e4]
  by_cases e5 : k = 5
  · rw [if_pos e5]; exact ⟨_, _, rfl, by omega, by omega⟩
  rw [if_neg e5]
  by_cases e6 : k = 6
  · rw [if_pos e6]; exact ⟨_, _, rfl, by omega, by omega⟩
  rw [if_neg e6]
  by_cases e9 : k = 9
  · rw [if_pos e9]; exact ⟨_, _, rfl, (u32_range _).1, (u32_range _).2⟩
  rw [if_neg e9]
  by_cases e10 : k = 10
  · rw [if_pos e10]; exact ⟨_, _, rfl, (u32_range _).1, (u32_range _).2⟩
  rw [if_neg e10]
  by_cases e11 : k = 11
  · rw [if_pos e11]; exact ⟨_, _, rfl, (u32_range _).1, (u32_range _).2⟩
  rw [if_neg e11]
  by_cases e12 : k = 12
  · rw [if_pos e12]; rw [if_pos b0]; exact ⟨_, _, rfl, (u32_range _).1, (u32_range _).2⟩
  rw [if_neg e12]
  by_cases e13 : k = 13
  · rw [if_pos e13]; rw [if_pos b0]; exact ⟨_, _, rfl, Int.ediv_nonneg a0 (by exact_mod_cast Nat.zero_le _), Int.lt_of_le_of_lt (Int.ediv_le_self _ a0) a1⟩
  rw [if_neg e13]
  by_cases e14 : k = 14
  · rw [if_pos e14]
    unfold word_truth.f
    by_cases ht : (decide (a < b)) = true
    · rw [if_pos ht]; exact ⟨_, _, rfl, by omega, by omega⟩
    · rw [if_neg ht]; exact ⟨_, _, rfl, by omega, by omega⟩
  rw [if_neg e14]
  by_cases e15 : k = 15
  · rw [if_pos e15]
    unfold word_truth.f
    by_cases ht : (a == b) = true
    · rw [if_pos ht]; exact ⟨_, _, rfl, by omega, by omega⟩
    · rw [if_neg ht]; exact ⟨_, _, rfl, by omega, by omega⟩
  rw [if_neg e15]
  exact ⟨_, _, rfl, by omega, by omega⟩

theorem opp_zero (k a b v e : Int) (ha : word_Apply.f 1 k a b = some (v, e)) (he : e ≠ 0) (K : Nat) (hK : 100 ≤ K) : runF 1 [oppF k a b] ⟨#[]⟩ 100 K = some (2, [], 3) := by
  have h1 : ∀ ws, stepsF [oppF k a b] 3 ⟨ws, ⟨#[]⟩, [], [⟨oppF k a b, 0, []⟩], 0⟩ = some ⟨ws, ⟨#[]⟩, [], [⟨oppF k a b, 3, []⟩], 2⟩ := fun ws => by
    simp [stepsF, stepF, doF, oppF, rd_T25, rdOf, ha, he]
  obtain ⟨k', rfl⟩ : ∃ k', K = (k' + 1) + 3 := ⟨K - 4, by omega⟩
  unfold runF
  rw [call_one (oppF k a b) rfl rfl, Option.bind_some, loop_steps _ _ 3 _ _ _ _ (h1 _) (by omega), loop_end _ _ _ _ _ (by show (2 : Int) ≠ 0; decide)]

theorem shr_f (v : Int) (n : Nat) (hn : n ≤ 32) : word_Apply.f 1 13 v (n : Int) = some (v / 2 ^ n, 0) := by
  have : (0 : Int) ≤ n := by omega
  have hm : min n 32 = n := by omega
  simp [word_Apply.f, shr, this, IntKind.bits, hm]

theorem opp_run (k a b v : Int) (ha : word_Apply.f 1 k a b = some (v, 0)) (v0 : 0 ≤ v) (v1 : v < 4294967296) (K : Nat) (hK : 100 ≤ K) : runF 1 [oppF k a b] ⟨#[]⟩ 100 K = some (1, four v, 21) := by
  have e0 : word_Apply.f 1 13 v 0 = some (v, 0) := by have := shr_f v 0 (by omega); simpa using this
  have e1 : word_Apply.f 1 13 v 8 = some (v / 256, 0) := shr_f v 8 (by omega)
  have e2 : word_Apply.f 1 13 v 16 = some (v / 65536, 0) := shr_f v 16 (by omega)
  have e3 : word_Apply.f 1 13 v 24 = some (v / 16777216, 0) := shr_f v 24 (by omega)
  have h1 : stepsF [oppF k a b] 4 ⟨[0], ⟨#[]⟩, [], [⟨oppF k a b, 0, []⟩], 0⟩ = some ⟨[v], ⟨#[]⟩, [], [⟨oppF k a b, 4, []⟩], 0⟩ := by
    simp [stepsF, stepF, doF, oppF, rd_T25, rdOf, ha]
  have h2 : stepsF [oppF k a b] 4 ⟨[v], ⟨#[]⟩, [], [⟨oppF k a b, 4, []⟩], 0⟩ = some ⟨[v], ⟨#[]⟩, [v % 256], [⟨oppF k a b, 8, []⟩], 0⟩ := by
    simp [stepsF, stepF, doF, oppF, rd_T25, rdOf, rd, e0]
  have h3 : stepsF [oppF k a b] 4 ⟨[v], ⟨#[]⟩, [v % 256], [⟨oppF k a b, 8, []⟩], 0⟩ = some ⟨[v], ⟨#[]⟩, [v % 256, v / 256 % 256], [⟨oppF k a b, 12, []⟩], 0⟩ := by
    simp [stepsF, stepF, doF, oppF, rd_T25, rdOf, rd, e1]
  have h4 : stepsF [oppF k a b] 4 ⟨[v], ⟨#[]⟩, [v % 256, v / 256 % 256], [⟨oppF k a b, 12, []⟩], 0⟩ = some ⟨[v], ⟨#[]⟩, [v % 256, v / 256 % 256, v / 65536 % 256], [⟨oppF k a b, 16, []⟩], 0⟩ := by
    simp [stepsF, stepF, doF, oppF, rd_T25, rdOf, rd, e2]
  have h5 : stepsF [oppF k a b] 5 ⟨[v], ⟨#[]⟩, [v % 256, v / 256 % 256, v / 65536 % 256], [⟨oppF k a b, 16, []⟩], 0⟩ = some ⟨[v], ⟨#[]⟩, four v, [], 1⟩ := by
    have : v / 16777216 % 256 = v / 16777216 := by omega
    simp [stepsF, stepF, doF, oppF, rd_T25, rdOf, rd, e3, this, four]
  have hc := call_one (oppF k a b) rfl rfl 1 ⟨#[]⟩
  obtain ⟨k', rfl⟩ : ∃ k', K = ((((((k' + 1) + 5) + 4) + 4) + 4) + 4) := ⟨K - 22, by omega⟩
  unfold runF
  rw [hc, Option.bind_some]
  rw [show List.replicate (1 : Int).toNat (0 : Int) = [0] from rfl]
  rw [loop_steps _ _ 4 _ _ _ _ h1 (by omega), loop_steps _ _ 4 _ _ _ _ h2 (by omega), loop_steps _ _ 4 _ _ _ _ h3 (by omega), loop_steps _ _ 4 _ _ _ _ h4 (by omega), loop_steps _ _ 5 _ _ _ _ h5 (by omega), loop_end _ _ _ _ _ (by show (1 : Int) ≠ 0; decide)]
end Go.Proofs.Ytlngcolnjgloaaa
