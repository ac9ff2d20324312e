/- One evaluation of Above keeps what is known, and each row of those above only shrinks. Conditions: none. Plain Lean. -/
import Derived.Test.YtnlapancooecjaaDom
namespace Go.Proofs.Ytnlapancooecjaa
open Go.RowKit Go.Proofs.YtnlapancooecjaaW.PrintWords
set_option linter.unusedVariables false
set_option linter.unusedSimpArgs false
set_option linter.unusedSectionVars false

structure Iv (next : List (List Int)) (pl ab : List Int) (j : Int) : Prop where
  tr : Tr next pl ab
  snd : ∀ v a : Nat, Kn ab v → mustF next a v = true → Anc ab v a
  kd : ∀ c p : Nat, Kn ab c → Rt next (-1) p → rd pl p < rd pl c → Kn ab p
  ea : ∀ c u p : Nat, up ab c = some u → Pd next p c → rd pl p < rd pl c → rd pl c < j → ∀ x, Anc ab u x → Anc ab p x
  eb : ∀ c u p : Nat, up ab c = some u → Pd next p c → rd pl p < rd pl c → ∀ x : Nat, Anc ab u x → j ≤ rd pl x → Anc ab p x
  jj : ∀ c u : Nat, up ab c = some u → ∀ x, (∀ p, Pd next p c → Kn ab p → Anc ab p x) → Anc ab u x

theorem up_set (ab : List Int) (b r v : Nat) (hb : b < ab.length) : up (ab.set b (r : Int)) v = if v = b then some r else up ab v := by
  unfold up rd
  simp only [Int.toNat_natCast, List.getD_eq_getElem?_getD, List.length_set]
  by_cases h : v = b
  · subst h
    rw [List.getElem?_set_self hb, if_pos rfl]
    simp [hb]
  · rw [List.getElem?_set_ne (fun e => h e.symm), if_neg h]

section
variable {next : List (List Int)} {pl ab : List Int} (hD : Dm next pl) (hT : Tr next pl ab) {b r : Nat} (hb : b < ab.length) (hrb : rd pl r < rd pl b)
include hD hT hb hrb
theorem not_rb : ¬ Anc ab r b := fun h => by rcases Anc.le hD hT h with rfl | h <;> omega
theorem chain_off {x z : Nat} (hx : ¬ Anc ab x b) : Anc (ab.set b (r : Int)) x z ↔ Anc ab x z := by
  constructor
  · intro h
    induction h with
    | refl => exact .refl _
    | step e h ih =>
      rename_i x y z
      rw [up_set ab b r x hb] at e
      by_cases hxb : x = b
      · exact absurd (hxb ▸ Anc.refl _) hx
      · rw [if_neg hxb] at e
        exact .step e (ih fun hh => hx (.step e hh))
  · intro h
    induction h with
    | refl => exact .refl _
    | step e h ih =>
      rename_i x y z
      have hxb : x ≠ b := fun hh => hx (hh ▸ Anc.refl _)
      exact .step (by rw [up_set ab b r x hb, if_neg hxb]; exact e) (ih fun hh => hx (.step e hh))
theorem chain_r {z : Nat} : Anc (ab.set b (r : Int)) r z ↔ Anc ab r z := chain_off hD hT hb hrb (not_rb hD hT hb hrb)
theorem chain_low {x z : Nat} (h : Anc ab x z) (hz : Anc ab z b) : Anc (ab.set b (r : Int)) x z := by
  induction h with
  | refl => exact .refl _
  | step e h ih =>
    rename_i x y z
    have hxb : x ≠ b := by
      rintro rfl
      have h1 := (hT.par _ _ e).2.2
      rcases Anc.le hD hT (h.trans hz) with rfl | h2 <;> omega
    exact .step (by rw [up_set ab b r x hb, if_neg hxb]; exact e) (ih hz)
theorem chain_on {x z : Nat} (hx : Anc ab x b) : Anc (ab.set b (r : Int)) x z ↔ ((Anc ab x z ∧ Anc ab z b) ∨ Anc ab r z) := by
  constructor
  · intro h
    induction h with
    | refl => exact .inl ⟨.refl _, hx⟩
    | step e h ih =>
      rename_i x y z
      rw [up_set ab b r x hb] at e
      by_cases hxb : x = b
      · rw [if_pos hxb] at e
        cases e
        exact .inr ((chain_r hD hT hb hrb).1 h)
      · rw [if_neg hxb] at e
        rcases hx.cases_ with h1 | ⟨y', e', h1⟩
        · exact absurd h1 hxb
        · rw [e] at e'
          cases e'
          rcases ih h1 with ⟨h2, h3⟩ | h2
          · exact .inl ⟨.step e h2, h3⟩
          · exact .inr h2
  · rintro (⟨h1, h2⟩ | h)
    · exact chain_low hD hT hb hrb h1 h2
    · refine (chain_low hD hT hb hrb hx (.refl b)).trans (.step (y := r) ?_ ((chain_r hD hT hb hrb).2 h))
      rw [up_set ab b r b hb, if_pos rfl]
/-- A place above b's stays. -/
theorem chain_far {x z : Nat} (hz : rd pl b < rd pl z) : Anc (ab.set b (r : Int)) x z ↔ Anc ab x z := by
  by_cases hx : Anc ab x b
  · rw [chain_on hD hT hb hrb hx]
    constructor
    · rintro (⟨h1, _⟩ | h)
      · exact h1
      · rcases Anc.le hD hT h with rfl | h <;> omega
    · intro h
      rcases h.lin hx with h1 | h1
      · exact .inl ⟨h, h1⟩
      · rcases Anc.le hD hT h1 with rfl | h2 <;> omega
  · exact chain_off hD hT hb hrb hx
theorem chain_small {x z : Nat} (hx : rd pl x < rd pl b) : Anc (ab.set b (r : Int)) x z ↔ Anc ab x z :=
  chain_off hD hT hb hrb fun h => by rcases Anc.le hD hT h with rfl | h <;> omega
end

theorem must_pred (next : List (List Int)) (a b p : Nat) (h : mustF next a b = true) (hne : a ≠ b) (hp : Pd next p b) : mustF next a p = true := by
  rw [must_iff] at *
  obtain ⟨h1, h2, h3⟩ := h
  refine ⟨h1, hp.1, ?_⟩
  by_cases e : p = a
  · exact .inl e
  · refine .inr fun hr => ?_
    rcases h3 with h3 | h3
    · exact hne h3.symm
    · exact h3 (Rt.step p (b : Int) hr (by omega) hp.2.1 (by omega) (by have := hp.2.2; omega))

theorem eval_step {next : List (List Int)} {pl ab : List Int} (hD : Dm next pl) {j : Int} (hI : Iv next pl ab j) {b r : Nat} (hbR : Rt next (-1) b) (hbj : rd pl b = j) (hb0 : b ≠ 0) (hprev : ∀ p : Nat, Rt next (-1) p → rd pl p < j → Kn ab p)
    (kr : Kn ab r) (hr : ∀ z, Anc ab r z ↔ ∀ p, Pd next p b → Kn ab p → Anc ab p z) :
    Iv next pl (ab.set b (r : Int)) (j + 1) ∧ (∀ v, Kn ab v → Kn (ab.set b (r : Int)) v) ∧ Kn (ab.set b (r : Int)) b ∧ ∀ u, up ab b = some u → Anc ab u r := by
  have hT := hI.tr
  have hb : b < ab.length := by rw [hT.len]; exact hbR.lt
  obtain ⟨f, hf, hfl⟩ := hD.fwd b hbR hb0
  have kf : Kn ab f := hprev f hf.1 (by omega)
  have rf : Anc ab f r := (hr r).1 (.refl r) f hf kf
  have hrb : rd pl r < rd pl b := by rcases Anc.le hD hT rf with rfl | h <;> omega
  have hup := fun v => up_set ab b r v hb
  have mono : ∀ v, Kn ab v → Kn (ab.set b (r : Int)) v := by
    rintro v (rfl | ⟨u, e⟩)
    · exact .inl rfl
    · refine .inr ?_
      rw [hup]
      by_cases h : v = b
      · exact ⟨r, by rw [if_pos h]⟩
      · exact ⟨u, by rw [if_neg h]; exact e⟩
  have knb : Kn (ab.set b (r : Int)) b := .inr ⟨r, by rw [hup, if_pos rfl]⟩
  have old : ∀ v, Kn (ab.set b (r : Int)) v → v = b ∨ Kn ab v := by
    rintro v (rfl | ⟨u, e⟩)
    · exact .inr (.inl rfl)
    · rw [hup] at e
      by_cases h : v = b
      · exact .inl h
      · rw [if_neg h] at e
        exact .inr (.inr ⟨u, e⟩)
  have down : ∀ u, up ab b = some u → Anc ab u r := fun u e => hI.jj b u e r fun p hp kp => (hr r).1 (.refl r) p hp kp
  have shrink : ∀ x z, Kn ab x → Anc (ab.set b (r : Int)) x z → Anc ab x z := by
    intro x z kx h
    by_cases hxb : Anc ab x b
    · rcases (chain_on hD hT hb hrb hxb).1 h with ⟨h1, _⟩ | h1
      · exact h1
      · rcases Anc.kn hD hT hxb kx with h2 | ⟨u, e⟩
        · exact absurd h2 hb0
        · exact hxb.trans (.step e ((down u e).trans h1))
    · exact (chain_off hD hT hb hrb hxb).1 h
  have nz : ∀ c u, up ab c = some u → c ≠ 0 := by
    rintro c u e rfl
    rw [hT.z] at e
    cases e
  refine ⟨⟨⟨by simpa using hT.len, ?_, ?_, ?_⟩, ?_, ?_, ?_, ?_, ?_⟩, mono, knb, down⟩
  · rw [hup, if_neg (fun e => hb0 e.symm)]
    exact hT.z
  · intro v
    have := hT.lo v
    unfold rd at this ⊢
    simp only [Int.toNat_natCast, List.getD_eq_getElem?_getD] at this ⊢
    by_cases h : b = v
    · subst h
      rw [List.getElem?_set_self hb]
      simp only [Option.getD_some]
      omega
    · rw [List.getElem?_set_ne h]
      exact this
  · intro v u e
    rw [hup] at e
    by_cases h : v = b
    · rw [if_pos h] at e
      cases e
      subst h
      exact ⟨hbR, mono r kr, hrb⟩
    · rw [if_neg h] at e
      have := hT.par v u e
      exact ⟨this.1, mono u this.2.1, this.2.2⟩
  · -- sound
    intro v a kv hm
    by_cases hvb : Anc ab v b
    · have Q : ∀ (m : Nat) (v : Nat), (rd pl v).toNat ≤ m → (v = b ∨ Kn ab v) → Anc ab v b → mustF next a v = true → (Anc ab v a ∧ Anc ab a b) ∨ mustF next a b = true := by
        intro m
        induction m with
        | zero =>
          intro v hvm hv hvb hm
          rcases hvb.cases_ with h | ⟨u, e, h⟩
          · subst h; exact .inr hm
          · have := (hT.par _ _ e).2.2
            have := hD.plnn u
            omega
        | succ m ih =>
          intro v hvm hv hvb hm
          rcases hvb.cases_ with h | ⟨u, e, h⟩
          · subst h; exact .inr hm
          · by_cases hav : a = v
            · subst hav; exact .inl ⟨.refl a, hvb⟩
            · have kv : Kn ab v := .inr ⟨u, e⟩
              obtain ⟨p, hp, hpl⟩ := hD.fwd v (Kn.rt hD hT kv) (nz v u e)
              have kp := hI.kd v p kv hp.1 hpl
              have hpb := hI.eb v u p e hp hpl b h (by omega)
              have := hD.plnn p
              rcases ih p (by omega) (.inr kp) hpb (must_pred next a v p hm hav hp) with h1 | h1
              · exact .inl ⟨hI.snd v a kv hm, h1.2⟩
              · exact .inr h1
      rcases Q _ v (Nat.le_refl _) (old v kv) hvb hm with h | h
      · exact (chain_on hD hT hb hrb hvb).2 (.inl h)
      · by_cases hab : a = b
        · subst hab
          exact chain_low hD hT hb hrb hvb (.refl _)
        · exact (chain_on hD hT hb hrb hvb).2 (.inr ((hr a).2 fun p hp kp => hI.snd p a kp (must_pred next a b p h hab hp)))
    · rcases old v kv with rfl | kv'
      · exact absurd (.refl _) hvb
      · exact (chain_off hD hT hb hrb hvb).2 (hI.snd v a kv' hm)
  · intro c p kc hp hpl
    rcases old c kc with rfl | kc'
    · exact mono p (hprev p hp (by omega))
    · exact mono p (hI.kd c p kc' hp hpl)
  · intro c u p e hp hpl hcj x hx
    rw [hup] at e
    by_cases h : c = b
    · rw [if_pos h] at e
      cases e
      subst h
      have h1 := (chain_r hD hT hb hrb).1 hx
      exact (chain_small hD hT hb hrb hpl).2 ((hr x).1 h1 p hp (hprev p hp.1 (by omega)))
    · rw [if_neg h] at e
      have hc := hT.par c u e
      have hne : rd pl c ≠ rd pl b := fun hh => h (hD.inj c b hc.1 hbR hh)
      have h1 := (chain_small hD hT hb hrb (x := u) (by omega)).1 hx
      exact (chain_small hD hT hb hrb (by omega)).2 (hI.ea c u p e hp hpl (by omega) x h1)
  · intro c u p e hp hpl x hx hxj
    rw [hup] at e
    by_cases h : c = b
    · rw [if_pos h] at e
      cases e
      have h1 := (chain_r hD hT hb hrb).1 hx
      rcases Anc.le hD hT h1 with rfl | h2 <;> omega
    · rw [if_neg h] at e
      have h1 := (chain_far hD hT hb hrb (by omega)).1 hx
      exact (chain_far hD hT hb hrb (by omega)).2 (hI.eb c u p e hp hpl x h1 (by omega))
  · intro c u e x hall
    rw [hup] at e
    by_cases h : c = b
    · rw [if_pos h] at e
      cases e
      subst h
      exact (chain_r hD hT hb hrb).2 ((hr x).2 fun p hp kp => shrink p x kp (hall p hp (mono p kp)))
    · rw [if_neg h] at e
      have hx := hI.jj c u e x fun p hp kp => shrink p x kp (hall p hp (mono p kp))
      by_cases hub : Anc ab u b
      · rcases hx.lin hub with h1 | h1
        · exact (chain_on hD hT hb hrb hub).2 (.inl ⟨hx, h1⟩)
        · by_cases hxb : x = b
          · subst hxb
            exact chain_low hD hT hb hrb hub (.refl _)
          · have kc : Kn ab c := .inr ⟨u, e⟩
            obtain ⟨p, hp, hpl⟩ := hD.fwd c (Kn.rt hD hT kc) (nz c u e)
            have kp := hI.kd c p kc hp.1 hpl
            have hpb := hI.eb c u p e hp hpl b hub (by omega)
            rcases (chain_on hD hT hb hrb hpb).1 (hall p hp (mono p kp)) with ⟨_, h2⟩ | h2
            · exfalso
              rcases Anc.le hD hT h1 with h3 | h3
              · exact hxb h3.symm
              · rcases Anc.le hD hT h2 with h4 | h4
                · exact hxb h4
                · omega
            · exact (chain_on hD hT hb hrb hub).2 (.inr h2)
      · exact (chain_off hD hT hb hrb hub).2 hx
end Go.Proofs.Ytnlapancooecjaa
