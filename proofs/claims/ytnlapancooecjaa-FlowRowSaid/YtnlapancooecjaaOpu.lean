/- The reference's order by a stack of blocks is the walk depth first. Conditions: none. Plain Lean. -/
import Derived.Test.YtnlapancooecjaaOrd
namespace Go.Proofs.Ytnlapancooecjaa
open Go.RowKit Go.Proofs.YtnlapancooecjaaW.PrintWords
set_option linter.unusedVariables false
set_option linter.unusedSimpArgs false

/-- The run over a stack of blocks (the top ahead), each with how many of its ways on were looked at. -/
def runO (next : List (List Int)) : Nat → List Bool → List (Nat × Nat) → List Int → Option (List Int)
  | 0, _, _, _ => none
  | _ + 1, _, [], out => some out
  | k + 1, s, (a, i) :: st, out =>
    if i = (succs next a).length then runO next k s st ((a : Int) :: out)
    else
      let x := (succs next a).getD i 0
      if 0 ≤ x ∧ x < next.length ∧ hit s x = false then runO next k (s.set x.toNat true) ((x.toNat, 0) :: (a, i + 1) :: st) out
      else runO next k s ((a, i + 1) :: st) out

theorem hit_false {s : List Bool} {b : Nat} (hb : b < s.length) (h : hit s (b : Int) = false) : s[b]? = some false := by
  unfold hit at h
  rw [Int.toNat_natCast, List.getD_eq_getElem?_getD, List.getElem?_eq_getElem hb] at h
  rw [List.getElem?_eq_getElem hb]
  simpa using h

theorem run_fold (next : List (List Int)) (r : List Int) (K : Nat) : ∀ (l : List Int) (a i : Nat) (L : List Int) (s : List Bool) (st : List (Nat × Nat)), s.length = next.length → unseen s < K → (succs next a).drop i = l → i ≤ (succs next a).length →
    (∃ k, runO next k (l.foldl (fun st n => visit next (-1) K n st) (s, L)).1 st ((a : Int) :: (l.foldl (fun st n => visit next (-1) K n st) (s, L)).2.reverse) = some r) → ∃ k, runO next k s ((a, i) :: st) L.reverse = some r := by
  induction K with
  | zero => intro l a i L s st _ h; omega
  | succ K ihK =>
    intro l
    induction l with
    | nil =>
      intro a i L s st hs hu hd hi ⟨k, hk⟩
      have : i = (succs next a).length := by
        have := congrArg List.length hd
        simp at this
        omega
      refine ⟨k + 1, ?_⟩
      rw [runO, if_pos this]
      exact hk
    | cons x l ih =>
      intro a i L s st hs hu hd hi hr
      have hil : i < (succs next a).length := by
        have := congrArg List.length hd
        simp at this
        omega
      have hx : (succs next a).getD i 0 = x := by
        have h : ((succs next a).drop i)[0]? = (x :: l)[0]? := by rw [hd]
        rw [List.getElem?_drop] at h
        rw [List.getD_eq_getElem?_getD]
        simp at h
        simp [h]
      have hd' : (succs next a).drop (i + 1) = l := by
        rw [← List.drop_drop, hd]
        rfl
      rw [List.foldl_cons] at hr
      by_cases hc : 0 ≤ x ∧ x < next.length ∧ hit s x = false
      · obtain ⟨h0, h1, h2⟩ := hc
        obtain ⟨b, rfl⟩ := Int.eq_ofNat_of_zero_le h0
        have hb : b < next.length := by omega
        have hsb := hit_false (s := s) (b := b) (by omega) h2
        rw [visit_step next (-1) K b (s, L) hb hsb (by omega)] at hr
        have hset := unseen_set s b hsb
        have hF := fold_inv next (-1) K (succs next b) (s.set b true, L) (by simpa using hs)
        obtain ⟨k, hk⟩ := ihK (succs next b) b 0 L (s.set b true) ((a, i + 1) :: st) (by simpa using hs) (by omega) rfl (by omega) (by
          have := ih a (i + 1) ((List.foldl (fun st n => visit next (-1) K n st) (s.set b true, L) (succs next b)).2 ++ [(b : Int)]) (List.foldl (fun st n => visit next (-1) K n st) (s.set b true, L) (succs next b)).1 st hF.1 (by have := hF.2.2; simp only at this; omega) hd' (by omega) hr
          rwa [List.reverse_append] at this)
        refine ⟨k + 1, ?_⟩
        rw [runO, if_neg (by omega)]
        simp only [hx]
        rw [if_pos ⟨h0, h1, h2⟩, Int.toNat_natCast]
        exact hk
      · have hv : visit next (-1) (K + 1) x (s, L) = (s, L) := by
          rw [visit, if_pos]
          by_cases q0 : x < 0
          · exact .inl q0
          · by_cases q1 : (next.length : Int) ≤ x
            · exact .inr (.inl q1)
            · refine .inr (.inr (.inl ?_))
              rcases e : hit s x with _ | _
              · exact absurd ⟨by omega, by omega, e⟩ hc
              · rfl
        rw [hv] at hr
        obtain ⟨k, hk⟩ := ih a (i + 1) L s st hs hu hd' (by omega) hr
        refine ⟨k + 1, ?_⟩
        rw [runO, if_neg (by omega)]
        simp only [hx]
        rw [if_neg hc]
        exact hk

theorem run_order (next : List (List Int)) (h : 0 < next.length) : ∃ k, runO next k ((List.replicate next.length false).set 0 true) [(0, 0)] [] = some (orderF next) := by
  have hs : (List.replicate next.length false)[0]? = some false := by rw [List.getElem?_replicate, if_pos h]
  have hset := unseen_set _ 0 hs
  rw [unseen_new] at hset
  refine run_fold next (orderF next) next.length (succs next (0 : Nat)) 0 0 [] _ [] (by simp) (by omega) rfl (by omega) ⟨1, ?_⟩
  have hv := visit_step next (-1) next.length 0 (List.replicate next.length false, []) h hs (by omega)
  unfold orderF deepF
  have e0 : ((0 : Nat) : Int) = (0 : Int) := rfl
  rw [e0] at hv ⊢
  rw [hv, runO, List.reverse_append]
  rfl
end Go.Proofs.Ytnlapancooecjaa
