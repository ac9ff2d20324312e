/- aboveF ends, and gives the nearest that must be gone through. Conditions: none. Plain Lean. -/
import Derived.Test.YtnlapancooecjaaRpo
namespace Go.Proofs.Ytnlapancooecjaa
open Go.RowKit Go.Proofs.YtnlapancooecjaaW.PrintWords
set_option linter.unusedVariables false
set_option linter.unusedSimpArgs false

theorem ord_rt (next : List (List Int)) (j : Nat) (x : Int) (h : (orderF next)[j]? = some x) : ∃ v : Nat, x = v ∧ Rt next (-1) v := by
  have hm := List.mem_of_getElem? h
  obtain ⟨h0, _⟩ := orderF_range next x hm
  obtain ⟨v, rfl⟩ := Int.eq_ofNat_of_zero_le h0
  have : (v : Int) ∈ deepF next (-1) := by simpa [orderF] using hm
  exact ⟨v, rfl, ((deepF_mem next (-1) v).1 this).1⟩
theorem rt_ord (next : List (List Int)) (v : Nat) (h : Rt next (-1) v) : ∃ j : Nat, j < (orderF next).length ∧ (orderF next)[j]? = some (v : Int) := by
  have : (v : Int) ∈ orderF next := by
    have := (deepF_mem next (-1) v).2 ⟨h, by omega⟩
    simpa [orderF] using this
  obtain ⟨j, hj⟩ := List.getElem?_of_mem this
  exact ⟨j, (List.getElem?_eq_some_iff.1 hj).1, hj⟩

theorem place_at (next : List (List Int)) (hR : Rp next) (j : Nat) (hj : j ≤ (orderF next).length) : ∀ (i : Nat) (x : Int), i < j → (orderF next)[i]? = some x → rd (placeF next.length (orderF next) j) x = i := by
  induction j with
  | zero => intro i x h; omega
  | succ j ih =>
    intro i x hi hx
    have hjl : j < (orderF next).length := by omega
    rw [placeF_succ _ _ _ hjl]
    have hyj : (orderF next)[j]? = some (rd (orderF next) j) := by
      rw [List.getElem?_eq_getElem hjl]
      simp [rd, List.getElem?_eq_getElem hjl]
    obtain ⟨y, hy, hyR⟩ := ord_rt next j _ hyj
    obtain ⟨v, hv, hvR⟩ := ord_rt next i x hx
    subst hv
    rw [hy] at hyj ⊢
    rw [Int.toNat_natCast]
    have hyl : y < (placeF next.length (orderF next) j).length := by rw [placeF_len]; exact hyR.lt
    by_cases h : i = j
    · subst h
      rw [hyj] at hx
      have : y = v := by injection hx with hx; omega
      subst this
      unfold rd
      rw [Int.toNat_natCast, List.getD_eq_getElem?_getD, List.getElem?_set_self hyl]
      rfl
    · have hne : y ≠ v := by
        rintro rfl
        have h1 := (List.getElem?_inj (by omega) hR.nd).1 (hx.trans hyj.symm)
        exact h h1
      have := ih (by omega) i v (by omega) hx
      unfold rd at this ⊢
      rw [Int.toNat_natCast, List.getD_eq_getElem?_getD] at this ⊢
      rw [List.getElem?_set_ne hne]
      exact this
theorem place_rng (next : List (List Int)) (j : Nat) (hj : j ≤ (orderF next).length) : ∀ x ∈ placeF next.length (orderF next) j, 0 ≤ x ∧ x ≤ next.length := by
  induction j with
  | zero =>
    intro x hx
    have : x = 0 := by
      unfold placeF at hx
      simp at hx
      exact hx.2
    omega
  | succ j ih =>
    rw [placeF_succ _ _ _ (by omega)]
    intro x hx
    rcases List.mem_or_eq_of_mem_set hx with hx | rfl
    · exact ih (by omega) x hx
    · have := orderF_len next
      omega

theorem push_mem (n b : Nat) (fr : List (List Int)) (hl : fr.length = n) (y : Int) (c : Nat) (hc : c < n) (u : Nat) : (u : Int) ∈ (pushF n b fr y).getD c [] ↔ ((u : Int) ∈ fr.getD c [] ∨ (u = b ∧ y = c)) := by
  unfold pushF
  split
  · next h =>
    obtain ⟨y, rfl⟩ := Int.eq_ofNat_of_zero_le h.1
    rw [Int.toNat_natCast]
    by_cases hyc : y = c
    · subst hyc
      rw [List.getD_eq_getElem?_getD, List.getElem?_set_self (by omega)]
      simp
      rw [Int.natCast_inj]
    · rw [List.getD_eq_getElem?_getD, List.getElem?_set_ne hyc, ← List.getD_eq_getElem?_getD]
      simp
      intro _ h
      omega
  · next h =>
    simp
    intro _ hh
    omega
theorem push_len (n : Nat) (b : Int) (fr : List (List Int)) (y : Int) : (pushF n b fr y).length = fr.length := by
  unfold pushF; split <;> simp
theorem into_mem (n b : Nat) (l : List Int) : ∀ (fr : List (List Int)), fr.length = n → ∀ (c : Nat), c < n → ∀ u : Nat, (u : Int) ∈ (fromIn n b l fr).getD c [] ↔ ((u : Int) ∈ fr.getD c [] ∨ (u = b ∧ (c : Int) ∈ l)) := by
  induction l with
  | nil => intro fr _ c _ u; simp [fromIn]
  | cons y ys ih =>
    intro fr hl c hc u
    have := ih (pushF n b fr y) (by rw [push_len]; exact hl) c hc u
    simp only [fromIn, List.foldl_cons] at this ⊢
    rw [this, push_mem n b fr hl y c hc u, List.mem_cons]
    constructor
    · rintro ((h | ⟨h1, h2⟩) | ⟨h1, h2⟩)
      · exact .inl h
      · exact .inr ⟨h1, .inl h2.symm⟩
      · exact .inr ⟨h1, .inr h2⟩
    · rintro (h | ⟨h1, h2 | h2⟩)
      · exact .inl (.inl h)
      · exact .inl (.inr ⟨h1, h2.symm⟩)
      · exact .inr ⟨h1, h2⟩
theorem into_len (n : Nat) (b : Int) (l : List Int) : ∀ fr : List (List Int), (fromIn n b l fr).length = fr.length := by
  induction l with
  | nil => intro fr; rfl
  | cons y ys ih =>
    intro fr
    have := ih (pushF n b fr y)
    simp only [fromIn, List.foldl_cons] at this ⊢
    rw [this, push_len]
theorem from_mem (next : List (List Int)) (j : Nat) (hj : j ≤ (orderF next).length) : (fromF next j).length = next.length ∧ ∀ c : Nat, c < next.length → ∀ u : Nat, (u : Int) ∈ (fromF next j).getD c [] ↔ ∃ i, i < j ∧ (orderF next)[i]? = some (u : Int) ∧ (c : Int) ∈ succs next u := by
  induction j with
  | zero =>
    have : fromF next 0 = List.replicate next.length [] := by simp [fromF]
    rw [this]
    refine ⟨by simp, fun c hc u => ?_⟩
    simp [hc]
  | succ j ih =>
    obtain ⟨hl, hm⟩ := ih (by omega)
    have hjl : j < (orderF next).length := by omega
    have hyj : (orderF next)[j]? = some (rd (orderF next) j) := by
      rw [List.getElem?_eq_getElem hjl]
      simp [rd, List.getElem?_eq_getElem hjl]
    obtain ⟨y, hy, hyR⟩ := ord_rt next j _ hyj
    rw [fromF_succ next j hjl, hy]
    rw [hy] at hyj
    refine ⟨by rw [into_len]; exact hl, fun c hc u => ?_⟩
    rw [into_mem _ _ _ _ hl c hc, hm c hc]
    constructor
    · rintro (⟨i, h1, h2, h3⟩ | ⟨rfl, h2⟩)
      · exact ⟨i, by omega, h2, h3⟩
      · exact ⟨j, by omega, hyj, h2⟩
    · rintro ⟨i, h1, h2, h3⟩
      by_cases h : i = j
      · subst h
        rw [hyj] at h2
        have : y = u := by injection h2 with h2; omega
        subst this
        exact .inr ⟨rfl, h3⟩
      · exact .inl ⟨i, by omega, h2, h3⟩

theorem rd_rng {xs : List Int} {n : Nat} (h : ∀ x ∈ xs, 0 ≤ x ∧ x ≤ (n : Int)) (v : Int) : 0 ≤ rd xs v ∧ rd xs v ≤ n := by
  unfold rd
  rw [List.getD_eq_getElem?_getD]
  rcases e : xs[v.toNat]? with _ | y
  · simp
  · exact h y (List.mem_of_getElem? e)

theorem statics (next : List (List Int)) (h : 0 < next.length) : Dm next (placeF next.length (orderF next) (orderF next).length) ∧ Od next (placeF next.length (orderF next) (orderF next).length) (fromF next (orderF next).length) (orderF next) := by
  have hR := rpo next h
  have hpl := fun i x hx => place_at next hR (orderF next).length (Nat.le_refl _) i x (List.getElem?_eq_some_iff.1 hx).1 hx
  have hrng := rd_rng (place_rng next (orderF next).length (Nat.le_refl _))
  have hfm := from_mem next (orderF next).length (Nat.le_refl _)
  refine ⟨⟨h, placeF_len _ _ _, ?_, fun v => (hrng v).1, fun v => (hrng v).2, ?_, ?_⟩, ⟨?_, hR.zero, ?_, ?_, ?_⟩⟩
  · exact hpl 0 0 hR.zero
  · intro u v hu hv e
    obtain ⟨i, _, hi⟩ := rt_ord next u hu
    obtain ⟨i', _, hi'⟩ := rt_ord next v hv
    rw [hpl i _ hi, hpl i' _ hi'] at e
    have : i = i' := by omega
    subst this
    rw [hi] at hi'
    injection hi' with hi'
    omega
  · intro v hv hv0
    obtain ⟨i, _, hi⟩ := rt_ord next v hv
    rcases hR.fwd i _ hi with h1 | ⟨i', u, h1, h2, h3⟩
    · omega
    · obtain ⟨p, rfl, hp⟩ := ord_rt next i' u h2
      refine ⟨p, ⟨hp, h3, hv.lt⟩, ?_⟩
      rw [hpl i _ hi, hpl i' _ h2]
      omega
  · intro j hj
    obtain ⟨v, e, hv⟩ := ord_rt next j _ (List.getElem?_eq_getElem hj)
    refine ⟨v, by rw [List.getElem?_eq_getElem hj, e], hv, ?_⟩
    exact hpl j v (by rw [List.getElem?_eq_getElem hj, e])
  · exact fun v hv => rt_ord next v hv
  · intro c hc u
    rw [hfm.2 c hc u]
    constructor
    · rintro ⟨i, _, h2, h3⟩
      obtain ⟨v, e, hv⟩ := ord_rt next i _ h2
      have : u = v := by omega
      subst this
      exact ⟨hv, h3, hc⟩
    · rintro ⟨h1, h2, _⟩
      obtain ⟨i, hil, hi⟩ := rt_ord next u h1
      exact ⟨i, hil, hi, h2⟩
  · intro c x hx
    by_cases hc : c < next.length
    · refine fromF_mem next (orderF next).length _ (List.mem_of_getElem? (i := c) ?_) x hx
      rw [List.getD_eq_getElem?_getD, List.getElem?_eq_getElem (by rw [hfm.1]; exact hc)] 
      rfl
    · rw [List.getD_eq_getElem?_getD, List.getElem?_eq_none (by rw [hfm.1]; omega)] at hx
      simp at hx

/-- What aboveF gives. -/
theorem aboveF_ok (next : List (List Int)) (h : 0 < next.length) (hn : next.length ≤ 100) : ∃ r, aboveF 20000 next = some r ∧ AbDone next (placeF next.length (orderF next) (orderF next).length) (orderF next) r := by
  obtain ⟨hD, hO⟩ := statics next h
  have hsq : next.length * next.length ≤ 100 * 100 := Nat.mul_le_mul hn hn
  exact above_ends hD hO (fun v => (rd_rng (place_rng next (orderF next).length (Nat.le_refl _)) v).2) 20000 (by omega) (by omega)
end Go.Proofs.Ytnlapancooecjaa
