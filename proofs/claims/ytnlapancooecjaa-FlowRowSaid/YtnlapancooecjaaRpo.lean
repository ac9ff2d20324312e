/- Order: no block twice, 0 ahead, each other behind one that it follows; places and predecessors as Above lays them. Conditions: none. Plain Lean. -/
import Derived.Test.YtnlapancooecjaaSwp
namespace Go.Proofs.Ytnlapancooecjaa
open Go.RowKit Go.Proofs.YtnlapancooecjaaW.PrintWords
set_option linter.unusedVariables false
set_option linter.unusedSimpArgs false

structure Vo (next : List (List Int)) (l : List Int) (s s' : List Bool × List Int) (M : List Int) : Prop where
  out : s'.2 = s.2 ++ M
  len : s'.1.length = next.length
  new : ∀ v : Nat, mk s'.1 v ↔ (mk s.1 v ∨ (v : Int) ∈ M)
  fresh : ∀ v : Nat, (v : Int) ∈ M → ¬ mk s.1 v
  rng : ∀ x ∈ M, 0 ≤ x ∧ x < next.length
  nd : M.Nodup
  pr : ∀ (i : Nat) x, M[i]? = some x → x ∈ l ∨ ∃ (i' : Nat) (u : Int), i < i' ∧ M[i']? = some u ∧ x ∈ succs next u
theorem Vo.nil (next : List (List Int)) (l : List Int) (s : List Bool × List Int) (h : s.1.length = next.length) : Vo next l s s [] :=
  ⟨by simp, h, by simp, by simp, by simp, by simp, by simp⟩
theorem Vo.app {next : List (List Int)} {l l' : List Int} {s t u : List Bool × List Int} {M N : List Int} (h : Vo next l s t M) (k : Vo next l' t u N) : Vo next (l ++ l') s u (M ++ N) where
  out := by rw [k.out, h.out, List.append_assoc]
  len := k.len
  new := by intro v; rw [k.new, h.new, List.mem_append, or_assoc]
  fresh := by
    intro v hv
    rcases List.mem_append.1 hv with hv | hv
    · exact h.fresh v hv
    · intro hs; exact k.fresh v hv ((h.new v).2 (.inl hs))
  rng := by
    intro x hx
    rcases List.mem_append.1 hx with hx | hx
    · exact h.rng x hx
    · exact k.rng x hx
  nd := by
    rw [List.nodup_append]
    refine ⟨h.nd, k.nd, ?_⟩
    rintro x hx y hy rfl
    obtain ⟨v, rfl⟩ := Int.eq_ofNat_of_zero_le (h.rng x hx).1
    exact k.fresh v hy ((h.new v).2 (.inr hx))
  pr := by
    intro i x hx
    by_cases hi : i < M.length
    · rw [List.getElem?_append_left hi] at hx
      rcases h.pr i x hx with h1 | ⟨i', u, h1, h2, h3⟩
      · exact .inl (List.mem_append_left _ h1)
      · have := (List.getElem?_eq_some_iff.1 h2).1
        exact .inr ⟨i', u, h1, by rw [List.getElem?_append_left this]; exact h2, h3⟩
    · rw [List.getElem?_append_right (by omega)] at hx
      rcases k.pr _ x hx with h1 | ⟨i', u, h1, h2, h3⟩
      · exact .inl (List.mem_append_right _ h1)
      · exact .inr ⟨M.length + i', u, by omega, by rw [List.getElem?_append_right (by omega)]; simpa using h2, h3⟩

theorem visit_ord (next : List (List Int)) (k : Nat) : ∀ (b : Int) (st : List Bool × List Int), st.1.length = next.length → unseen st.1 < k → ∃ M, Vo next [b] st (visit next (-1) k b st) M := by
  induction k with
  | zero => intro b st _ h; omega
  | succ k ih =>
    intro b st hl hu
    by_cases hc : b < 0 ∨ (next.length : Int) ≤ b ∨ hit st.1 b = true ∨ b = -1
    · rw [visit, if_pos hc]
      exact ⟨[], Vo.nil _ _ _ hl⟩
    · simp only [not_or, Int.not_lt, Int.not_le, Bool.not_eq_true] at hc
      obtain ⟨h0, h1, h2, h3⟩ := hc
      obtain ⟨m, rfl⟩ := Int.eq_ofNat_of_zero_le h0
      have hm : m < next.length := by omega
      have hms : m < st.1.length := by omega
      have hs : st.1[m]? = some false := by
        rw [List.getElem?_eq_getElem hms]
        simpa [hit, List.getD_eq_getElem?_getD, List.getElem?_eq_getElem hms] using h2
      have hus := unseen_set _ _ hs
      have fold : ∀ (l : List Int) (s : List Bool × List Int), s.1.length = next.length → unseen s.1 < k → ∃ M, Vo next l s (l.foldl (fun st n => visit next (-1) k n st) s) M := by
        intro l
        induction l with
        | nil => intro s hsl _; exact ⟨[], Vo.nil _ _ _ hsl⟩
        | cons y ys ihl =>
          intro s hsl hsu
          obtain ⟨M, hV⟩ := ih y s hsl hsu
          have hinv := visit_inv next (-1) k y s hsl
          obtain ⟨N, hW⟩ := ihl (visit next (-1) k y s) hV.len (by omega)
          exact ⟨M ++ N, hV.app hW⟩
      obtain ⟨M, hV⟩ := fold (succs next m) (st.1.set m true, st.2) (by simp [hl]) (by show unseen (st.1.set m true) < k; omega)
      rw [visit_step next (-1) k m st hm hs (by omega)]
      have hset : ∀ v, mk (st.1.set m true) v ↔ (v = m ∨ mk st.1 v) := fun v => mk_set hms
      have hnm : ¬ mk st.1 m := by unfold mk; rw [hs]; simp
      refine ⟨M ++ [(m : Int)], ⟨?_, hV.len, ?_, ?_, ?_, ?_, ?_⟩⟩
      · show _ ++ _ = _
        rw [hV.out]
        simp
      · intro v
        have := hV.new v
        simp only at this ⊢
        rw [this, hset v, List.mem_append, List.mem_singleton, Int.natCast_inj]
        constructor
        · rintro ((h | h) | h)
          · exact .inr (.inr h)
          · exact .inl h
          · exact .inr (.inl h)
        · rintro (h | h | h)
          · exact .inl (.inr h)
          · exact .inr h
          · exact .inl (.inl h)
      · intro v hv hs'
        rcases List.mem_append.1 hv with hv | hv
        · exact hV.fresh v hv ((hset v).2 (.inr hs'))
        · rw [List.mem_singleton, Int.natCast_inj] at hv
          subst hv
          exact hnm hs'
      · intro x hx
        rcases List.mem_append.1 hx with hx | hx
        · exact hV.rng x hx
        · rw [List.mem_singleton] at hx
          subst hx
          exact ⟨h0, h1⟩
      · rw [List.nodup_append]
        refine ⟨hV.nd, by simp, ?_⟩
        rintro x hx y hy rfl
        rw [List.mem_singleton] at hy
        subst hy
        exact hV.fresh m hx ((hset m).2 (.inl rfl))
      · intro i x hx
        by_cases hi : i < M.length
        · rw [List.getElem?_append_left hi] at hx
          rcases hV.pr i x hx with h4 | ⟨i', u, h4, h5, h6⟩
          · exact .inr ⟨M.length, m, hi, by rw [List.getElem?_append_right (Nat.le_refl _)]; simp, h4⟩
          · have := (List.getElem?_eq_some_iff.1 h5).1
            exact .inr ⟨i', u, h4, by rw [List.getElem?_append_left this]; exact h5, h6⟩
        · rw [List.getElem?_append_right (by omega)] at hx
          have := List.mem_of_getElem? hx
          exact .inl this

structure Rp (next : List (List Int)) : Prop where
  nd : (orderF next).Nodup
  zero : (orderF next)[0]? = some 0
  fwd : ∀ (i : Nat) x, (orderF next)[i]? = some x → x = 0 ∨ ∃ (i' : Nat) (u : Int), i' < i ∧ (orderF next)[i']? = some u ∧ x ∈ succs next u
theorem rpo (next : List (List Int)) (h : 0 < next.length) : Rp next := by
  obtain ⟨M, hV⟩ := visit_ord next (next.length + 1) 0 (List.replicate next.length false, []) (by simp) (by rw [unseen_new]; omega)
  have hM : deepF next (-1) = M := by
    unfold deepF
    rw [hV.out]
    rfl
  have hl : ∃ L, deepF next (-1) = L ++ [0] := by
    have hs : (List.replicate next.length false)[0]? = some false := by rw [List.getElem?_replicate, if_pos h]
    have hv := visit_step next (-1) next.length 0 (List.replicate next.length false, []) h hs (by omega)
    unfold deepF
    rw [show (0 : Int) = ((0 : Nat) : Int) from rfl, hv]
    exact ⟨_, rfl⟩
  have ho : orderF next = M.reverse := by rw [← hM]; rfl
  refine ⟨?_, ?_, ?_⟩
  · rw [ho]
    have := hV.nd
    simpa [List.Nodup, List.pairwise_reverse, ne_comm] using this
  · obtain ⟨L, hL⟩ := hl
    show (deepF next (-1)).reverse[0]? = _
    rw [hL, List.reverse_append]
    rfl
  · intro i x hx
    rw [ho] at hx ⊢
    have hi : i < M.length := by
      have := (List.getElem?_eq_some_iff.1 hx).1
      simpa using this
    rw [List.getElem?_reverse hi] at hx
    rcases hV.pr _ x hx with h1 | ⟨i', u, h1, h2, h3⟩
    · exact .inl (by simpa using h1)
    · have hi' := (List.getElem?_eq_some_iff.1 h2).1
      refine .inr ⟨M.length - 1 - i', u, by omega, ?_, h3⟩
      rw [List.getElem?_reverse (by omega), show M.length - 1 - (M.length - 1 - i') = i' by omega]
      exact h2
end Go.Proofs.Ytnlapancooecjaa
