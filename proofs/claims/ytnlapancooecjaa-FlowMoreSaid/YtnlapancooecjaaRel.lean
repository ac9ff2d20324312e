/- What one must go through, by paths: it goes on from one to the next, two that must be gone through lie in a row, and a way's end cut off shows it. Conditions: none. -/
import Derived.Test.YtnlapancooecjaaWou
namespace Go.Proofs.Ytnlapancooecjaa
open Go.RowKit Go.Proofs.YtnlapancooecjaaW.PrintWords
set_option linter.unusedVariables false
set_option linter.unusedSimpArgs false

theorem must_iff (next : List (List Int)) (a b : Nat) : mustF next a b = true ↔ (a < next.length ∧ Rt next (-1) b ∧ (b = a ∨ ¬ Rt next a b)) := by
  unfold mustF
  rw [Bool.and_eq_true, Bool.and_eq_true, decide_eq_true_eq, hit_mk, reach_mk, Bool.not_eq_true', ← Bool.not_eq_true, List.contains_iff_mem, deepF_mem]
  constructor
  · rintro ⟨⟨h0, h1, h2, h3⟩, hr, hn⟩
    refine ⟨by omega, hr, ?_⟩
    by_cases e : b = a
    · exact .inl e
    · exact .inr fun h => hn ⟨h, by omega⟩
  · rintro ⟨h1, hr, hn⟩
    have := hr.lt
    refine ⟨⟨by omega, by omega, by omega, by omega⟩, hr, ?_⟩
    rintro ⟨h, hne⟩
    rcases hn with e | e
    · omega
    · exact e h

/-- Whatever is reached round a is so round b, or b is, round a. -/
theorem Rt.split {next : List (List Int)} {a : Int} {v : Nat} (h : Rt next a v) (b : Nat) : Rt next b v ∨ Rt next a b := by
  induction h with
  | zero h => exact .inl (.zero h)
  | step u y hu hua hy h0 h1 ih =>
    rcases ih with ih | ih
    · by_cases e : u = b
      · subst e; exact .inr hu
      · exact .inl (.step u y ih (by omega) hy h0 h1)
    · exact .inr ih
theorem Rt.first {next : List (List Int)} {c : Int} {v : Nat} (h : Rt next c v) (a b : Nat) : Rt next a b ∨ Rt next b a ∨ (Rt next a v ∧ Rt next b v) := by
  induction h with
  | zero h => exact .inr (.inr ⟨.zero h, .zero h⟩)
  | step u y hu hua hy h0 h1 ih =>
    rcases ih with ih | ih | ⟨i1, i2⟩
    · exact .inl ih
    · exact .inr (.inl ih)
    · by_cases e : u = a
      · subst e; exact .inr (.inl i2)
      · by_cases e' : u = b
        · subst e'; exact .inl i1
        · exact .inr (.inr ⟨.step u y i1 (by omega) hy h0 h1, .step u y i2 (by omega) hy h0 h1⟩)
theorem Rt.last {next : List (List Int)} {c : Int} {v : Nat} (h : Rt next c v) (a b : Nat) (hab : Rt next a b) (hba : Rt next b a) (hne : a ≠ b) : Rt next a v ∨ Rt next b v := by
  induction h with
  | zero h => exact .inl (.zero h)
  | step u y hu hua hy h0 h1 ih =>
    rcases ih with ih | ih
    · by_cases e : u = a
      · subst e; exact .inr (.step u y hba (by omega) hy h0 h1)
      · exact .inl (.step u y ih (by omega) hy h0 h1)
    · by_cases e : u = b
      · subst e; exact .inl (.step u y hab (by omega) hy h0 h1)
      · exact .inr (.step u y ih (by omega) hy h0 h1)

theorem must_trans (next : List (List Int)) (a b c : Nat) (h1 : mustF next a b = true) (h2 : mustF next b c = true) : mustF next a c = true := by
  rw [must_iff] at *
  obtain ⟨a1, a2, a3⟩ := h1
  obtain ⟨b1, b2, b3⟩ := h2
  refine ⟨a1, b2, ?_⟩
  by_cases e : c = a
  · exact .inl e
  · right
    intro h
    rcases b3 with rfl | b3
    · rcases a3 with e' | a3
      · exact e e'
      · exact a3 h
    · rcases h.split b with h | h
      · exact b3 h
      · rcases a3 with rfl | a3
        · exact b3 (by assumption)
        · exact a3 h
theorem must_anti (next : List (List Int)) (a b : Nat) (h1 : mustF next a b = true) (h2 : mustF next b a = true) : a = b := by
  rw [must_iff] at *
  obtain ⟨a1, a2, a3⟩ := h1
  obtain ⟨b1, b2, b3⟩ := h2
  by_cases e : a = b
  · exact e
  · exfalso
    have n1 := a3.resolve_left (by omega)
    have n2 := b3.resolve_left (by omega)
    rcases a2.first a b with h | h | ⟨h, _⟩
    · exact n1 h
    · exact n2 h
    · exact n1 h
theorem must_row (next : List (List Int)) (a b c : Nat) (h1 : mustF next a c = true) (h2 : mustF next b c = true) : mustF next a b = true ∨ mustF next b a = true := by
  rw [must_iff] at h1 h2
  obtain ⟨a1, a2, a3⟩ := h1
  obtain ⟨b1, _, b3⟩ := h2
  by_cases e : a = b
  · subst e
    have : Rt next (-1) a := by
      rcases a3 with rfl | a3
      · exact a2
      · rcases a2.split a with h | h
        · exact absurd h a3
        · exact h
    exact .inl ((must_iff _ _ _).2 ⟨a1, this, .inl rfl⟩)
  have ra : Rt next (-1) a := by
    rcases a3 with rfl | a3
    · exact a2
    · rcases a2.split a with h | h
      · exact absurd h a3
      · exact h
  have rb : Rt next (-1) b := by
    rcases b3 with rfl | b3
    · exact a2
    · rcases a2.split b with h | h
      · exact absurd h b3
      · exact h
  by_cases hab : Rt next a b
  · by_cases hba : Rt next b a
    · exfalso
      rcases a3 with rfl | a3
      · rcases b3 with rfl | b3
        · exact e rfl
        · exact b3 hba
      · rcases b3 with rfl | b3
        · exact a3 hab
        · rcases a2.last a b hab hba e with h | h
          · exact a3 h
          · exact b3 h
    · exact .inr ((must_iff _ _ _).2 ⟨b1, ra, .inr hba⟩)
  · exact .inl ((must_iff _ _ _).2 ⟨a1, rb, .inr hab⟩)

/-- The graph without one's ways on. -/
theorem cut_reach (next cut : List (List Int)) (a : Nat) (hl : cut.length = next.length) (hc : ∀ u : Nat, succs cut u = if u = a then [] else succs next u) (v : Nat) : Rt cut (-1) v ↔ Rt next a v := by
  constructor
  · intro h
    induction h with
    | zero h => exact .zero (by omega)
    | step u y hu hua hy h0 h1 ih =>
      rw [hc] at hy
      split at hy
      · cases hy
      · exact .step u y ih (by omega) hy h0 (by omega)
  · intro h
    induction h with
    | zero h => exact .zero (by omega)
    | step u y hu hua hy h0 h1 ih =>
      exact .step u y ih (by omega) (by rw [hc, if_neg (by omega)]; exact hy) h0 (by omega)

/-- With a way more what was reached still is, and what one need not go through one need not. -/
theorem more_reach (next more : List (List Int)) (hl : more.length = next.length) (hm : ∀ u : Nat, ∀ y ∈ succs next u, y ∈ succs more u) (a : Int) (v : Nat) (h : Rt next a v) : Rt more a v := by
  induction h with
  | zero h => exact .zero (by omega)
  | step u y hu hua hy h0 h1 ih => exact .step u y ih hua (hm u y hy) h0 (by omega)
theorem more_must (next more : List (List Int)) (hl : more.length = next.length) (hm : ∀ u : Nat, ∀ y ∈ succs next u, y ∈ succs more u) (x y : Nat) (hy : Rt next (-1) y) (h : mustF more x y = true) : mustF next x y = true := by
  rw [must_iff] at *
  refine ⟨by omega, hy, ?_⟩
  rcases h.2.2 with e | e
  · exact .inl e
  · exact .inr fun hr => e (more_reach next more hl hm x y hr)
end Go.Proofs.Ytnlapancooecjaa
