/- What Above ends with: by it a row is that of those that must be gone through, and the next one up is the nearest. Conditions: none. Plain Lean. -/
import Derived.Test.YtnlapancooecjaaSwp
namespace Go.Proofs.Ytnlapancooecjaa
open Go.RowKit Go.Proofs.YtnlapancooecjaaW.PrintWords
set_option linter.unusedVariables false
set_option linter.unusedSimpArgs false

theorem above_ends {next : List (List Int)} {pl : List Int} {fr : List (List Int)} {ord : List Int} (hD : Dm next pl) (hO : Od next pl fr ord) (hle : ∀ v : Int, rd pl v ≤ next.length) (k : Nat) (hk : 2 * next.length + 1 < k) (hk2 : next.length * next.length + 1 < k) :
    ∃ r, aboveL k pl fr ord k (List.replicate next.length (-1)) = some r ∧ AbDone next pl ord r := by
  obtain ⟨ab', more', e, i1, i2, _, i4⟩ := one_sweep hD hO k hk _ (iv_start hD)
  cases hkk : k with
  | zero => omega
  | succ m =>
    rw [hkk] at e
    rw [aboveL, e]
    simp only [Option.bind_some]
    cases more' with
    | false => exact ⟨ab', by simp, i4 rfl⟩
    | true =>
      have hm := mu_le pl next.length hle ab'
      rw [i1.tr.len] at hm
      obtain ⟨r, hr, hd⟩ := above_loop hD hO k hk m ab' (iv_again hO i1) i2 (by omega)
      rw [hkk] at hr
      exact ⟨r, by simpa using hr, hd⟩

theorem Rt.weak {next : List (List Int)} {a : Int} {v : Nat} (h : Rt next a v) : Rt next (-1) v := by
  induction h with
  | zero h => exact .zero h
  | step u y hu hua hy h0 h1 ih => exact .step u y ih (by omega) hy h0 h1

theorem must_anc {next : List (List Int)} {pl : List Int} {ord r : List Int} (hD : Dm next pl) (h : AbDone next pl ord r) (v a : Nat) (hv : Rt next (-1) v) : mustF next a v = true ↔ Anc r v a := by
  obtain ⟨hI, hall, hfx⟩ := h
  have hT := hI.tr
  constructor
  · exact hI.snd v a (hall v hv)
  · intro ha
    have hz : ∀ z, Anc r 0 z → z = 0 := by
      intro z h
      rcases h.cases_ with h | ⟨y, e, _⟩
      · exact h.symm
      · rw [hT.z] at e; cases e
    rw [must_iff]
    refine ⟨(Kn.rt hD hT (Anc.kn hD hT ha (hall v hv))).lt, hv, ?_⟩
    by_cases hva : v = a
    · exact .inl hva
    · refine .inr fun hr => ?_
      have key : ∀ v, Rt next a v → v = a ∨ ¬ Anc r v a := by
        intro v hr
        induction hr with
        | zero h0 =>
          by_cases h : 0 = a
          · exact .inl h
          · exact .inr fun hh => h (hz _ hh).symm
        | step u y hu hua hy h0 h1 ih =>
          obtain ⟨v, rfl⟩ := Int.eq_ofNat_of_zero_le h0
          rw [Int.toNat_natCast]
          by_cases h : v = a
          · exact .inl h
          · refine .inr fun hh => ?_
            have hp : Pd next u v := ⟨hu.weak, hy, by omega⟩
            have hvR : Rt next (-1) v := by
              have := Rt.step u (v : Int) hu.weak (by omega) hy (by omega) h1
              rwa [Int.toNat_natCast] at this
            by_cases hv0 : v = 0
            · subst hv0
              exact h (hz _ hh).symm
            · obtain ⟨w, e, hw⟩ := hfx v hvR hv0
              rcases hh.cases_ with h2 | ⟨w', e', h2⟩
              · exact h h2
              · rw [e] at e'
                cases e'
                have h3 := (hw a).1 h2 u hp (hall u hu.weak)
                rcases ih with h4 | h4
                · omega
                · exact h4 h3
      rcases key v hr with h | h
      · exact hva h
      · exact h ha

/-- The nearest one up. -/
theorem near_some {next : List (List Int)} {pl : List Int} {ord r : List Int} (hD : Dm next pl) (h : AbDone next pl ord r) (b : Nat) (hb : Rt next (-1) b) (hb0 : b ≠ 0) :
    ∃ u : Nat, rd r (b : Int) = u ∧ u ≠ b ∧ u < next.length ∧ Rt next (-1) u ∧ rd pl u < rd pl b ∧ mustF next u b = true ∧ ∀ a : Nat, a ≠ b → mustF next a b = true → mustF next a u = true := by
  have hT := h.1.tr
  obtain ⟨u, e, _⟩ := h.2.2 b hb hb0
  have hp := hT.par b u e
  have hu := Kn.rt hD hT hp.2.1
  refine ⟨u, ?_, ?_, hu.lt, hu, hp.2.2, ?_, ?_⟩
  · unfold up at e
    split at e
    · cases e; omega
    · cases e
  · rintro rfl
    omega
  · exact (must_anc hD h b u hb).2 (.step e (.refl _))
  · intro a hab ha
    rcases ((must_anc hD h b a hb).1 ha).cases_ with h1 | ⟨u', e', h1⟩
    · exact absurd h1.symm hab
    · rw [e] at e'
      cases e'
      exact (must_anc hD h u a hu).2 h1
theorem near_none {next : List (List Int)} {pl : List Int} {ord r : List Int} (hD : Dm next pl) (h : AbDone next pl ord r) (b : Nat) (hbl : b < next.length) (hb : b = 0 ∨ ¬ Rt next (-1) b) : rd r (b : Int) = -1 := by
  have hT := h.1.tr
  have hn : up r b = none := by
    rcases hb with rfl | hb
    · exact hT.z
    · rcases e : up r b with _ | u
      · rfl
      · exact absurd (hT.par b u e).1 hb
  have := hT.lo b
  unfold up at hn
  split at hn
  · cases hn
  · next hh =>
    rw [hT.len] at hh
    have : ¬ 0 ≤ rd r (b : Int) := fun h => hh ⟨hbl, h⟩
    omega
end Go.Proofs.Ytnlapancooecjaa
