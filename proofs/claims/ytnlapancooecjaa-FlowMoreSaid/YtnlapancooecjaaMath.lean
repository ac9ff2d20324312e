/- What depth first comes to is what is reached by ways round a block. Conditions: none. -/
import Derived.Test.YtnlapancooecjaaDeep
namespace Go.Proofs.Ytnlapancooecjaa
set_option linter.unusedVariables false
set_option linter.unusedSimpArgs false
open Go.RowKit Go.Proofs.YtnlapancooecjaaW.PrintWords

set_option linter.unusedSimpArgs false
/-! ### what is reached, by paths -/
inductive Rt (next : List (List Int)) (a : Int) : Nat → Prop
  | zero : 0 < next.length → Rt next a 0
  | step (u : Nat) (y : Int) : Rt next a u → (u : Int) ≠ a → y ∈ succs next u → 0 ≤ y → y < next.length → Rt next a y.toNat

theorem Rt.lt {next : List (List Int)} {a : Int} {v : Nat} (h : Rt next a v) : v < next.length := by
  cases h with
  | zero h => exact h
  | step u y _ _ _ h0 h1 => omega

def mk (s : List Bool) (v : Nat) : Prop := s[v]? = some true
theorem mk_set {s : List Bool} {v b : Nat} (hb : b < s.length) : mk (s.set b true) v ↔ (v = b ∨ mk s v) := by
  unfold mk
  by_cases h : v = b
  · subst h
    simp [List.getElem?_set_self hb]
  · rw [List.getElem?_set_ne (fun e => h e.symm)]
    simp [h]
theorem mk_lt {s : List Bool} {v : Nat} (h : mk s v) : v < s.length := (List.getElem?_eq_some_iff.1 h).1
theorem hit_mk (s : List Bool) (v : Nat) : hit s (v : Int) = true ↔ mk s v := by
  unfold hit mk
  rw [Int.toNat_natCast, List.getD_eq_getElem?_getD]
  cases s[v]? with
  | none => simp
  | some b => simp

/-- what a walk does -/
structure Vis (next : List (List Int)) (a : Int) (st st' : List Bool × List Int) (M : List Int) : Prop where
  out : st'.2 = st.2 ++ M
  len : st'.1.length = next.length
  new : ∀ v : Nat, mk st'.1 v ↔ (mk st.1 v ∨ (v : Int) ∈ M)
  fresh : ∀ v : Nat, (v : Int) ∈ M → ¬ mk st.1 v
  rng : ∀ x ∈ M, 0 ≤ x ∧ x < next.length ∧ x ≠ a
  rt : ∀ v : Nat, (v : Int) ∈ M → Rt next a v
  closed : ∀ v : Nat, (v : Int) ∈ M → ∀ y ∈ succs next v, 0 ≤ y → y < next.length → mk st'.1 y.toNat ∨ y = a

def okAt (next : List (List Int)) (y : Int) : Prop := 0 ≤ y ∧ y < next.length

theorem Vis.refl (next : List (List Int)) (a : Int) (st : List Bool × List Int) (h : st.1.length = next.length) : Vis next a st st [] :=
  ⟨by simp, h, by simp, by simp, by simp, by simp, by simp⟩
theorem Vis.trans {next : List (List Int)} {a : Int} {s t u : List Bool × List Int} {M N : List Int} (h : Vis next a s t M) (k : Vis next a t u N) : Vis next a s u (M ++ N) where
  out := by rw [k.out, h.out, List.append_assoc]
  len := k.len
  new := by intro v; rw [k.new, h.new, List.mem_append, or_assoc]
  fresh := by
    intro v hv
    rcases List.mem_append.1 hv with hv | hv
    · exact h.fresh v hv
    · intro hs; exact k.fresh v hv ((h.new v).2 (.inl hs))
  rng := by
    intro x hx
    rcases List.mem_append.1 hx with hx | hx
    · exact h.rng x hx
    · exact k.rng x hx
  rt := by
    intro v hv
    rcases List.mem_append.1 hv with hv | hv
    · exact h.rt v hv
    · exact k.rt v hv
  closed := by
    intro v hv y hy h0 h1
    rcases List.mem_append.1 hv with hv | hv
    · rcases h.closed v hv y hy h0 h1 with e | e
      · exact .inl ((k.new _).2 (.inl e))
      · exact .inr e
    · exact k.closed v hv y hy h0 h1

theorem visit_vis (next : List (List Int)) (a : Int) (k : Nat) : ∀ (b : Int) (st : List Bool × List Int), st.1.length = next.length → unseen st.1 < k → (okAt next b → b ≠ a → Rt next a b.toNat) →
    ∃ M, Vis next a st (visit next a k b st) M ∧ (okAt next b → b ≠ a → mk (visit next a k b st).1 b.toNat) := by
  induction k with
  | zero => intro b st _ h; omega
  | succ k ih =>
    intro b st hl hu hr
    rw [visit]
    split
    · rename_i hc
      refine ⟨[], Vis.refl next a st hl, ?_⟩
      rintro ⟨h0, h1⟩ hne
      rcases hc with h | h | h | h
      · omega
      · omega
      · rw [show b = ((b.toNat : Nat) : Int) from by omega] at h
        exact (hit_mk _ _).1 h
      · exact absurd h hne
    · rename_i hc
      simp only [not_or, Int.not_lt, Int.not_le, Bool.not_eq_true] at hc
      obtain ⟨h0, h1, h2, h3⟩ := hc
      obtain ⟨m, rfl⟩ := Int.eq_ofNat_of_zero_le h0
      rw [Int.toNat_natCast]
      have hm : m < next.length := by omega
      have hms : m < st.1.length := by omega
      have hs : st.1[m]? = some false := by
        rw [List.getElem?_eq_getElem hms]
        simpa [hit, List.getD_eq_getElem?_getD, List.getElem?_eq_getElem hms] using h2
      have hus := unseen_set _ _ hs
      have hrm : Rt next a m := by have := hr ⟨h0, h1⟩ h3; rwa [Int.toNat_natCast] at this
      have fold : ∀ (l : List Int) (s : List Bool × List Int), (∀ y ∈ l, y ∈ succs next m) → s.1.length = next.length → unseen s.1 < k →
          ∃ M, Vis next a s (l.foldl (fun st n => visit next a k n st) s) M ∧ ∀ y ∈ l, okAt next y → y ≠ a → mk (l.foldl (fun st n => visit next a k n st) s).1 y.toNat := by
        intro l
        induction l with
        | nil => intro s _ hsl _; exact ⟨[], Vis.refl next a s hsl, by simp⟩
        | cons y ys ihl =>
          intro s hys hsl hsu
          obtain ⟨M, hV, hmk⟩ := ih y s hsl hsu (fun hok hne => by
            have := Rt.step m y hrm h3 (hys y List.mem_cons_self) hok.1 hok.2
            exact this)
          have hinv := visit_inv next a k y s hsl
          obtain ⟨N, hW, hmk2⟩ := ihl (visit next a k y s) (fun z hz => hys z (List.mem_cons_of_mem _ hz)) hV.len (by omega)
          refine ⟨M ++ N, hV.trans hW, ?_⟩
          intro z hz hok hne
          rcases List.mem_cons.1 hz with rfl | hz
          · exact (hW.new _).2 (.inl (hmk hok hne))
          · exact hmk2 z hz hok hne
      obtain ⟨M, hV, hmk⟩ := fold (succs next m) (st.1.set m true, st.2) (fun _ h => h) (by simp [hl]) (by show unseen (st.1.set m true) < k; omega)
      simp only [Int.toNat_natCast] at hV hmk ⊢
      have hset : ∀ v, mk (st.1.set m true) v ↔ (v = m ∨ mk st.1 v) := fun v => mk_set hms
      have hnm : ¬ mk st.1 m := by unfold mk; rw [hs]; simp
      refine ⟨M ++ [(m : Int)], ⟨?_, hV.len, ?_, ?_, ?_, ?_, ?_⟩, ?_⟩
      · show _ ++ _ = _
        rw [hV.out]
        simp
      · intro v
        have := hV.new v
        simp only at this ⊢
        rw [this, hset v, List.mem_append, List.mem_singleton, Int.natCast_inj]
        constructor
        · rintro ((h | h) | h)
          · exact .inr (.inr h)
          · exact .inl h
          · exact .inr (.inl h)
        · rintro (h | h | h)
          · exact .inl (.inr h)
          · exact .inr h
          · exact .inl (.inl h)
      · intro v hv hs'
        rcases List.mem_append.1 hv with hv | hv
        · exact hV.fresh v hv ((hset v).2 (.inr hs'))
        · rw [List.mem_singleton, Int.natCast_inj] at hv
          subst hv
          exact hnm hs'
      · intro x hx
        rcases List.mem_append.1 hx with hx | hx
        · exact hV.rng x hx
        · rw [List.mem_singleton] at hx
          subst hx
          exact ⟨h0, h1, h3⟩
      · intro v hv
        rcases List.mem_append.1 hv with hv | hv
        · exact hV.rt v hv
        · rw [List.mem_singleton, Int.natCast_inj] at hv
          subst hv
          exact hrm
      · intro v hv y hy g0 g1
        rcases List.mem_append.1 hv with hv | hv
        · exact hV.closed v hv y hy g0 g1
        · rw [List.mem_singleton, Int.natCast_inj] at hv
          subst hv
          by_cases e : y = a
          · exact .inr e
          · exact .inl (hmk y hy ⟨g0, g1⟩ e)
      · intro _ _
        exact (hV.new m).2 (.inl ((hset m).2 (.inl rfl)))

/-- What deep comes to: what is reached without going through a, but a. -/
theorem deepF_mem (next : List (List Int)) (a : Int) (v : Nat) : (v : Int) ∈ deepF next a ↔ (Rt next a v ∧ (v : Int) ≠ a) := by
  have hl : (List.replicate next.length false).length = next.length := by simp
  obtain ⟨M, hV, hmk⟩ := visit_vis next a (next.length + 1) 0 (List.replicate next.length false, []) hl (by rw [unseen_new]; omega) (fun h _ => Rt.zero (by have := h.2; omega))
  have hM : deepF next a = M := by
    unfold deepF
    rw [hV.out]
    rfl
  rw [hM]
  constructor
  · intro h
    exact ⟨hV.rt v h, (hV.rng _ h).2.2⟩
  · rintro ⟨hr, hne⟩
    have seen : ∀ u : Nat, mk (visit next a (next.length + 1) 0 (List.replicate next.length false, [])).1 u → (u : Int) ∈ M := by
      intro u hu
      rcases (hV.new u).1 hu with h | h
      · exfalso
        unfold mk at h
        simp only [List.getElem?_replicate] at h
        split at h <;> simp at h
      · exact h
    induction hr with
    | zero h0 => exact seen 0 (hmk ⟨by omega, by omega⟩ hne)
    | step u y hu hua hy h0 h1 ih =>
      rcases hV.closed u (ih hua) y hy h0 h1 with e | e
      · exact seen _ e
      · exfalso; apply hne; omega
end Go.Proofs.Ytnlapancooecjaa
