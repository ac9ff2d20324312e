/- The rows of those above, by ab: what the meeting of two is, and the best of many. Conditions: none. Plain Lean. -/
import Derived.Test.YtnlapancooecjaaRel
import Derived.Test.YtnlapancooecjaaAbv
namespace Go.Proofs.Ytnlapancooecjaa
open Go.RowKit Go.Proofs.YtnlapancooecjaaW.PrintWords
set_option linter.unusedVariables false
set_option linter.unusedSimpArgs false
set_option linter.unusedSectionVars false

def up (ab : List Int) (v : Nat) : Option Nat := if v < ab.length ∧ 0 ≤ rd ab v then some (rd ab v).toNat else none
inductive Anc (ab : List Int) : Nat → Nat → Prop
  | refl (x : Nat) : Anc ab x x
  | step {x y z : Nat} : up ab x = some y → Anc ab y z → Anc ab x z
def Kn (ab : List Int) (v : Nat) : Prop := v = 0 ∨ ∃ u, up ab v = some u
def Pd (next : List (List Int)) (p c : Nat) : Prop := Rt next (-1) p ∧ (c : Int) ∈ succs next p ∧ c < next.length

structure Dm (next : List (List Int)) (pl : List Int) : Prop where
  n0 : 0 < next.length
  pln : pl.length = next.length
  pl0 : rd pl (0 : Nat) = 0
  plnn : ∀ v : Nat, 0 ≤ rd pl v
  plle : ∀ v : Nat, rd pl v ≤ next.length
  inj : ∀ u v : Nat, Rt next (-1) u → Rt next (-1) v → rd pl u = rd pl v → u = v
  fwd : ∀ v : Nat, Rt next (-1) v → v ≠ 0 → ∃ p : Nat, Pd next p v ∧ rd pl p < rd pl v
structure Tr (next : List (List Int)) (pl ab : List Int) : Prop where
  len : ab.length = next.length
  z : up ab 0 = none
  lo : ∀ v : Nat, -1 ≤ rd ab v
  par : ∀ v u : Nat, up ab v = some u → Rt next (-1) v ∧ Kn ab u ∧ rd pl u < rd pl v

theorem Anc.trans {ab : List Int} {x y z : Nat} (h : Anc ab x y) (k : Anc ab y z) : Anc ab x z := by
  induction h with
  | refl => exact k
  | step e _ ih => exact .step e (ih k)
theorem Anc.cases_ {ab : List Int} {x z : Nat} (h : Anc ab x z) : x = z ∨ ∃ y, up ab x = some y ∧ Anc ab y z := by
  cases h with
  | refl => exact .inl rfl
  | step e h => exact .inr ⟨_, e, h⟩
theorem Anc.lin {ab : List Int} {x y z : Nat} (h : Anc ab x y) (k : Anc ab x z) : Anc ab y z ∨ Anc ab z y := by
  induction h with
  | refl => exact .inl k
  | step e h ih =>
    rcases k.cases_ with rfl | ⟨y', e', k'⟩
    · exact .inr (.step e h)
    · rw [e] at e'
      cases e'
      exact ih k'
section
variable {next : List (List Int)} {pl ab : List Int} (hD : Dm next pl) (hT : Tr next pl ab)
include hD hT
theorem Kn.rt {v : Nat} (h : Kn ab v) : Rt next (-1) v := by
  rcases h with rfl | ⟨u, h⟩
  · exact .zero hD.n0
  · exact (hT.par v u h).1
theorem Anc.le {x z : Nat} (h : Anc ab x z) : x = z ∨ rd pl z < rd pl x := by
  induction h with
  | refl => exact .inl rfl
  | step e h ih =>
    have := (hT.par _ _ e).2.2
    rcases ih with rfl | ih
    · exact .inr this
    · exact .inr (by omega)
theorem Anc.kn {x z : Nat} (h : Anc ab x z) (hx : Kn ab x) : Kn ab z := by
  induction h with
  | refl => exact hx
  | step e h ih => exact ih (hT.par _ _ e).2.1
theorem Kn.zero {x : Nat} (hx : Kn ab x) : Anc ab x 0 := by
  have : ∀ (m : Nat) (x : Nat), (rd pl x).toNat ≤ m → Kn ab x → Anc ab x 0 := by
    intro m
    induction m with
    | zero =>
      intro x hm hx
      rcases hx with rfl | ⟨u, e⟩
      · exact .refl 0
      · have := (hT.par _ _ e).2.2
        have := hD.plnn u
        omega
    | succ m ih =>
      intro x hm hx
      rcases hx with rfl | ⟨u, e⟩
      · exact .refl 0
      · have h3 := (hT.par _ _ e).2
        have := hD.plnn u
        exact .step e (ih u (by omega) h3.1)
  exact this _ x (Nat.le_refl _) hx

theorem climb_spec (k : Nat) : ∀ a b : Nat, Kn ab a → Kn ab b → rd pl a < k → ∃ r : Nat, climb pl ab k a b = some (r : Int) ∧ Kn ab r ∧ Anc ab a r ∧ rd pl r ≤ rd pl b ∧ (∀ z, Anc ab a z → Anc ab b z → Anc ab r z) ∧ (rd pl a ≤ rd pl b → r = a) := by
  induction k with
  | zero => intro a b _ _ h; have := hD.plnn a; omega
  | succ k ih =>
    intro a b ha hb hk
    have la := (Kn.rt hD hT ha).lt
    have lb := (Kn.rt hD hT hb).lt
    have hpl := hD.pln
    rw [climb, if_pos ⟨by omega, by omega, by omega, by omega⟩]
    by_cases h : rd pl b < rd pl a
    · rw [if_pos h]
      have hb0 := hD.plnn b
      rcases ha with rfl | ⟨u, e⟩
      · rw [hD.pl0] at h; omega
      · have h3 := (hT.par _ _ e).2
        have hu : rd ab a = (u : Int) := by
          unfold up at e
          split at e
          · next h0 => cases e; omega
          · cases e
        rw [hu]
        obtain ⟨r, hr, kr, ar, lr, mr, _⟩ := ih u b h3.1 hb (by omega)
        refine ⟨r, hr, kr, .step e ar, lr, ?_, fun hh => absurd h (by omega)⟩
        intro z hz hbz
        rcases hz.cases_ with rfl | ⟨y, e', k'⟩
        · rcases Anc.le hD hT hbz with rfl | hlt
          · omega
          · omega
        · rw [e] at e'
          cases e'
          exact mr z k' hbz
    · rw [if_neg h]
      exact ⟨a, rfl, ha, .refl a, by omega, fun z hz _ => hz, fun _ => rfl⟩

theorem meet_spec (k : Nat) : ∀ a b : Nat, Kn ab a → Kn ab b → rd pl a + rd pl b + 1 < k → ∃ r : Nat, meetF pl ab k a b = some (r : Int) ∧ Kn ab r ∧ ∀ z, Anc ab r z ↔ (Anc ab a z ∧ Anc ab b z) := by
  induction k with
  | zero => intro a b _ _ h; have := hD.plnn a; have := hD.plnn b; omega
  | succ k ih =>
    intro a b ha hb hk
    have p1 := hD.plnn a
    have p2 := hD.plnn b
    rw [meetF]
    by_cases hab : a = b
    · subst hab
      rw [if_pos rfl]
      exact ⟨a, rfl, ha, fun z => ⟨fun h => ⟨h, h⟩, fun h => h.1⟩⟩
    · rw [if_neg (by omega)]
      have hne : rd pl a ≠ rd pl b := fun h => hab (hD.inj a b (Kn.rt hD hT ha) (Kn.rt hD hT hb) h)
      by_cases hz : k = 0
      · subst hz; omega
      have hk1 : ∀ x : Nat, 0 ≤ rd pl x := hD.plnn
      obtain ⟨a', ea, ka, aa, la, ma, na⟩ := climb_spec hD hT k a b ha hb (by omega)
      obtain ⟨b', eb, kb, bb, lb, mb, nb⟩ := climb_spec hD hT k b a' hb ka (by omega)
      rw [ea]
      simp only [Option.bind_some]
      rw [eb]
      simp only [Option.bind_some]
      have hdec : rd pl a' + rd pl b' + 1 < k := by
        rcases Anc.le hD hT aa with rfl | h1
        · rcases Anc.le hD hT bb with rfl | h2
          · omega
          · omega
        · rcases Anc.le hD hT bb with rfl | h2
          · omega
          · omega
      obtain ⟨r, hr, kr, mr⟩ := ih a' b' ka kb hdec
      refine ⟨r, hr, kr, fun z => ?_⟩
      rw [mr]
      constructor
      · rintro ⟨h1, h2⟩
        exact ⟨aa.trans h1, bb.trans h2⟩
      · rintro ⟨h1, h2⟩
        have h3 := ma z h1 h2
        exact ⟨h3, mb z h2 h3⟩

theorem kn_rd (v : Nat) (hv : v < next.length) : Kn ab v ↔ (v = 0 ∨ 0 ≤ rd ab v) := by
  unfold Kn up
  constructor
  · rintro (h | ⟨u, h⟩)
    · exact .inl h
    · split at h
      · next h0 => exact .inr h0.2
      · cases h
  · rintro (h | h)
    · exact .inl h
    · exact .inr ⟨_, by rw [if_pos ⟨by rw [hT.len]; exact hv, h⟩]⟩

def encO : Option Nat → Int
  | none => -1
  | some u => u

theorem step_spec (k : Nat) (hk : 2 * next.length + 1 < k) (o : Option Nat) (p : Nat) (hpn : p < next.length) (ho : ∀ u, o = some u → Kn ab u) :
    ∃ o', stepBest k pl ab (encO o) p = some (encO o') ∧ (∀ u, o' = some u → Kn ab u) ∧ (o' = none ↔ o = none ∧ ¬ Kn ab p) ∧ ∀ r, o' = some r → ∀ z, Anc ab r z ↔ ((∀ u, o = some u → Anc ab u z) ∧ (Kn ab p → Anc ab p z)) := by
  unfold stepBest
  have hkn := kn_rd hD hT p hpn
  by_cases hp : Kn ab p
  · rw [if_neg (by have := hkn.1 hp; omega)]
    cases o with
    | none =>
      rw [if_pos (by simp [encO])]
      refine ⟨some p, rfl, fun u e => by cases e; exact hp, by simp [hp], ?_⟩
      intro r e z
      cases e
      simp [hp]
    | some u =>
      rw [if_neg (by simp [encO])]
      have l1 := hD.plle u
      have l2 := hD.plle p
      obtain ⟨r, hr, kr, mr⟩ := meet_spec hD hT k u p (ho u rfl) hp (by omega)
      refine ⟨some r, hr, fun u e => by cases e; exact kr, by simp, ?_⟩
      intro r' e z
      cases e
      rw [mr]
      simp [hp]
  · rw [if_pos (by have : ¬ (p = 0 ∨ 0 ≤ rd ab p) := fun h => hp (hkn.2 h); omega)]
    refine ⟨o, rfl, ho, by simp [hp], ?_⟩
    intro r e z
    subst e
    simp [hp]

theorem best_spec (k : Nat) (hk : 2 * next.length + 1 < k) (ps : List Int) : ∀ (o : Option Nat), (∀ p ∈ ps, 0 ≤ p ∧ p < next.length) → (∀ u, o = some u → Kn ab u) →
    ∃ o', bestL k pl ab ps (encO o) = some (encO o') ∧ (∀ u, o' = some u → Kn ab u) ∧ (o' = none ↔ o = none ∧ ∀ u : Nat, (u : Int) ∈ ps → ¬ Kn ab u) ∧ ∀ r, o' = some r → ∀ z, Anc ab r z ↔ ((∀ u, o = some u → Anc ab u z) ∧ ∀ u : Nat, (u : Int) ∈ ps → Kn ab u → Anc ab u z) := by
  induction ps with
  | nil =>
    intro o _ ho
    refine ⟨o, rfl, ho, by simp, ?_⟩
    intro r e z
    subst e
    simp
  | cons p ps ih =>
    intro o hps ho
    have hp0 := hps p List.mem_cons_self
    obtain ⟨p, rfl⟩ := Int.eq_ofNat_of_zero_le hp0.1
    obtain ⟨o1, e1, k1, n1, m1⟩ := step_spec hD hT k hk o p (by omega) ho
    obtain ⟨o2, e2, k2, n2, m2⟩ := ih o1 (fun q hq => hps q (List.mem_cons_of_mem _ hq)) k1
    refine ⟨o2, ?_, k2, ?_, ?_⟩
    · rw [bestL, e1]
      exact e2
    · rw [n2, n1]
      constructor
      · rintro ⟨⟨h1, h2⟩, h3⟩
        refine ⟨h1, fun u hu => ?_⟩
        rcases List.mem_cons.1 hu with h | h
        · have : u = p := by omega
          subst this
          exact h2
        · exact h3 u h
      · rintro ⟨h1, h2⟩
        exact ⟨⟨h1, h2 p List.mem_cons_self⟩, fun u hu => h2 u (List.mem_cons_of_mem _ hu)⟩
    · intro r e z
      rw [m2 r e]
      constructor
      · rintro ⟨h1, h2⟩
        refine ⟨fun u hu => ?_, fun u hu ku => ?_⟩
        · cases o1 with
          | none => have := (n1.1 rfl).1; rw [this] at hu; cases hu
          | some r1 => exact ((m1 r1 rfl z).1 (h1 r1 rfl)).1 u hu
        · rcases List.mem_cons.1 hu with h | h
          · have : u = p := by omega
            subst this
            cases o1 with
            | none => exact absurd ku (n1.1 rfl).2
            | some r1 => exact ((m1 r1 rfl z).1 (h1 r1 rfl)).2 ku
          · exact h2 u h ku
      · rintro ⟨h1, h2⟩
        refine ⟨fun u hu => ?_, fun u hu ku => h2 u (List.mem_cons_of_mem _ hu) ku⟩
        exact (m1 u hu z).2 ⟨h1, fun kp => h2 p List.mem_cons_self kp⟩
end
end Go.Proofs.Ytnlapancooecjaa

/- One evaluation of Above keeps what is known, and each row of those above only shrinks. Conditions: none. Plain Lean. -/
namespace Go.Proofs.Ytnlapancooecjaa
open Go.RowKit Go.Proofs.YtnlapancooecjaaW.PrintWords
set_option linter.unusedVariables false
set_option linter.unusedSimpArgs false
set_option linter.unusedSectionVars false

structure Iv (next : List (List Int)) (pl ab : List Int) (j : Int) : Prop where
  tr : Tr next pl ab
  snd : ∀ v a : Nat, Kn ab v → mustF next a v = true → Anc ab v a
  kd : ∀ c p : Nat, Kn ab c → Rt next (-1) p → rd pl p < rd pl c → Kn ab p
  ea : ∀ c u p : Nat, up ab c = some u → Pd next p c → rd pl p < rd pl c → rd pl c < j → ∀ x, Anc ab u x → Anc ab p x
  eb : ∀ c u p : Nat, up ab c = some u → Pd next p c → rd pl p < rd pl c → ∀ x : Nat, Anc ab u x → j ≤ rd pl x → Anc ab p x
  jj : ∀ c u : Nat, up ab c = some u → ∀ x, (∀ p, Pd next p c → Kn ab p → Anc ab p x) → Anc ab u x

theorem up_set (ab : List Int) (b r v : Nat) (hb : b < ab.length) : up (ab.set b (r : Int)) v = if v = b then some r else up ab v := by
  unfold up rd
  simp only [Int.toNat_natCast, List.getD_eq_getElem?_getD, List.length_set]
  by_cases h : v = b
  · subst h
    rw [List.getElem?_set_self hb, if_pos rfl]
    simp [hb]
  · rw [List.getElem?_set_ne (fun e => h e.symm), if_neg h]

section
variable {next : List (List Int)} {pl ab : List Int} (hD : Dm next pl) (hT : Tr next pl ab) {b r : Nat} (hb : b < ab.length) (hrb : rd pl r < rd pl b)
include hD hT hb hrb
theorem not_rb : ¬ Anc ab r b := fun h => by rcases Anc.le hD hT h with rfl | h <;> omega
theorem chain_off {x z : Nat} (hx : ¬ Anc ab x b) : Anc (ab.set b (r : Int)) x z ↔ Anc ab x z := by
  constructor
  · intro h
    induction h with
    | refl => exact .refl _
    | step e h ih =>
      rename_i x y z
      rw [up_set ab b r x hb] at e
      by_cases hxb : x = b
      · exact absurd (hxb ▸ Anc.refl _) hx
      · rw [if_neg hxb] at e
        exact .step e (ih fun hh => hx (.step e hh))
  · intro h
    induction h with
    | refl => exact .refl _
    | step e h ih =>
      rename_i x y z
      have hxb : x ≠ b := fun hh => hx (hh ▸ Anc.refl _)
      exact .step (by rw [up_set ab b r x hb, if_neg hxb]; exact e) (ih fun hh => hx (.step e hh))
theorem chain_r {z : Nat} : Anc (ab.set b (r : Int)) r z ↔ Anc ab r z := chain_off hD hT hb hrb (not_rb hD hT hb hrb)
theorem chain_low {x z : Nat} (h : Anc ab x z) (hz : Anc ab z b) : Anc (ab.set b (r : Int)) x z := by
  induction h with
  | refl => exact .refl _
  | step e h ih =>
    rename_i x y z
    have hxb : x ≠ b := by
      rintro rfl
      have h1 := (hT.par _ _ e).2.2
      rcases Anc.le hD hT (h.trans hz) with rfl | h2 <;> omega
    exact .step (by rw [up_set ab b r x hb, if_neg hxb]; exact e) (ih hz)
theorem chain_on {x z : Nat} (hx : Anc ab x b) : Anc (ab.set b (r : Int)) x z ↔ ((Anc ab x z ∧ Anc ab z b) ∨ Anc ab r z) := by
  constructor
  · intro h
    induction h with
    | refl => exact .inl ⟨.refl _, hx⟩
    | step e h ih =>
      rename_i x y z
      rw [up_set ab b r x hb] at e
      by_cases hxb : x = b
      · rw [if_pos hxb] at e
        cases e
        exact .inr ((chain_r hD hT hb hrb).1 h)
      · rw [if_neg hxb] at e
        rcases hx.cases_ with h1 | ⟨y', e', h1⟩
        · exact absurd h1 hxb
        · rw [e] at e'
          cases e'
          rcases ih h1 with ⟨h2, h3⟩ | h2
          · exact .inl ⟨.step e h2, h3⟩
          · exact .inr h2
  · rintro (⟨h1, h2⟩ | h)
    · exact chain_low hD hT hb hrb h1 h2
    · refine (chain_low hD hT hb hrb hx (.refl b)).trans (.step (y := r) ?_ ((chain_r hD hT hb hrb).2 h))
      rw [up_set ab b r b hb, if_pos rfl]
/-- A place above b's stays. -/
theorem chain_far {x z : Nat} (hz : rd pl b < rd pl z) : Anc (ab.set b (r : Int)) x z ↔ Anc ab x z := by
  by_cases hx : Anc ab x b
  · rw [chain_on hD hT hb hrb hx]
    constructor
    · rintro (⟨h1, _⟩ | h)
      · exact h1
      · rcases Anc.le hD hT h with rfl | h <;> omega
    · intro h
      rcases h.lin hx with h1 | h1
      · exact .inl ⟨h, h1⟩
      · rcases Anc.le hD hT h1 with rfl | h2 <;> omega
  · exact chain_off hD hT hb hrb hx
theorem chain_small {x z : Nat} (hx : rd pl x < rd pl b) : Anc (ab.set b (r : Int)) x z ↔ Anc ab x z :=
  chain_off hD hT hb hrb fun h => by rcases Anc.le hD hT h with rfl | h <;> omega
end

theorem must_pred (next : List (List Int)) (a b p : Nat) (h : mustF next a b = true) (hne : a ≠ b) (hp : Pd next p b) : mustF next a p = true := by
  rw [must_iff] at *
  obtain ⟨h1, h2, h3⟩ := h
  refine ⟨h1, hp.1, ?_⟩
  by_cases e : p = a
  · exact .inl e
  · refine .inr fun hr => ?_
    rcases h3 with h3 | h3
    · exact hne h3.symm
    · exact h3 (Rt.step p (b : Int) hr (by omega) hp.2.1 (by omega) (by have := hp.2.2; omega))

theorem eval_step {next : List (List Int)} {pl ab : List Int} (hD : Dm next pl) {j : Int} (hI : Iv next pl ab j) {b r : Nat} (hbR : Rt next (-1) b) (hbj : rd pl b = j) (hb0 : b ≠ 0) (hprev : ∀ p : Nat, Rt next (-1) p → rd pl p < j → Kn ab p)
    (kr : Kn ab r) (hr : ∀ z, Anc ab r z ↔ ∀ p, Pd next p b → Kn ab p → Anc ab p z) :
    Iv next pl (ab.set b (r : Int)) (j + 1) ∧ (∀ v, Kn ab v → Kn (ab.set b (r : Int)) v) ∧ Kn (ab.set b (r : Int)) b ∧ ∀ u, up ab b = some u → Anc ab u r := by
  have hT := hI.tr
  have hb : b < ab.length := by rw [hT.len]; exact hbR.lt
  obtain ⟨f, hf, hfl⟩ := hD.fwd b hbR hb0
  have kf : Kn ab f := hprev f hf.1 (by omega)
  have rf : Anc ab f r := (hr r).1 (.refl r) f hf kf
  have hrb : rd pl r < rd pl b := by rcases Anc.le hD hT rf with rfl | h <;> omega
  have hup := fun v => up_set ab b r v hb
  have mono : ∀ v, Kn ab v → Kn (ab.set b (r : Int)) v := by
    rintro v (rfl | ⟨u, e⟩)
    · exact .inl rfl
    · refine .inr ?_
      rw [hup]
      by_cases h : v = b
      · exact ⟨r, by rw [if_pos h]⟩
      · exact ⟨u, by rw [if_neg h]; exact e⟩
  have knb : Kn (ab.set b (r : Int)) b := .inr ⟨r, by rw [hup, if_pos rfl]⟩
  have old : ∀ v, Kn (ab.set b (r : Int)) v → v = b ∨ Kn ab v := by
    rintro v (rfl | ⟨u, e⟩)
    · exact .inr (.inl rfl)
    · rw [hup] at e
      by_cases h : v = b
      · exact .inl h
      · rw [if_neg h] at e
        exact .inr (.inr ⟨u, e⟩)
  have down : ∀ u, up ab b = some u → Anc ab u r := fun u e => hI.jj b u e r fun p hp kp => (hr r).1 (.refl r) p hp kp
  have shrink : ∀ x z, Kn ab x → Anc (ab.set b (r : Int)) x z → Anc ab x z := by
    intro x z kx h
    by_cases hxb : Anc ab x b
    · rcases (chain_on hD hT hb hrb hxb).1 h with ⟨h1, _⟩ | h1
      · exact h1
      · rcases Anc.kn hD hT hxb kx with h2 | ⟨u, e⟩
        · exact absurd h2 hb0
        · exact hxb.trans (.step e ((down u e).trans h1))
    · exact (chain_off hD hT hb hrb hxb).1 h
  have nz : ∀ c u, up ab c = some u → c ≠ 0 := by
    rintro c u e rfl
    rw [hT.z] at e
    cases e
  refine ⟨⟨⟨by simpa using hT.len, ?_, ?_, ?_⟩, ?_, ?_, ?_, ?_, ?_⟩, mono, knb, down⟩
  · rw [hup, if_neg (fun e => hb0 e.symm)]
    exact hT.z
  · intro v
    have := hT.lo v
    unfold rd at this ⊢
    simp only [Int.toNat_natCast, List.getD_eq_getElem?_getD] at this ⊢
    by_cases h : b = v
    · subst h
      rw [List.getElem?_set_self hb]
      simp only [Option.getD_some]
      omega
    · rw [List.getElem?_set_ne h]
      exact this
  · intro v u e
    rw [hup] at e
    by_cases h : v = b
    · rw [if_pos h] at e
      cases e
      subst h
      exact ⟨hbR, mono r kr, hrb⟩
    · rw [if_neg h] at e
      have := hT.par v u e
      exact ⟨this.1, mono u this.2.1, this.2.2⟩
  · -- sound
    intro v a kv hm
    by_cases hvb : Anc ab v b
    · have Q : ∀ (m : Nat) (v : Nat), (rd pl v).toNat ≤ m → (v = b ∨ Kn ab v) → Anc ab v b → mustF next a v = true → (Anc ab v a ∧ Anc ab a b) ∨ mustF next a b = true := by
        intro m
        induction m with
        | zero =>
          intro v hvm hv hvb hm
          rcases hvb.cases_ with h | ⟨u, e, h⟩
          · subst h; exact .inr hm
          · have := (hT.par _ _ e).2.2
            have := hD.plnn u
            omega
        | succ m ih =>
          intro v hvm hv hvb hm
          rcases hvb.cases_ with h | ⟨u, e, h⟩
          · subst h; exact .inr hm
          · by_cases hav : a = v
            · subst hav; exact .inl ⟨.refl a, hvb⟩
            · have kv : Kn ab v := .inr ⟨u, e⟩
              obtain ⟨p, hp, hpl⟩ := hD.fwd v (Kn.rt hD hT kv) (nz v u e)
              have kp := hI.kd v p kv hp.1 hpl
              have hpb := hI.eb v u p e hp hpl b h (by omega)
              have := hD.plnn p
              rcases ih p (by omega) (.inr kp) hpb (must_pred next a v p hm hav hp) with h1 | h1
              · exact .inl ⟨hI.snd v a kv hm, h1.2⟩
              · exact .inr h1
      rcases Q _ v (Nat.le_refl _) (old v kv) hvb hm with h | h
      · exact (chain_on hD hT hb hrb hvb).2 (.inl h)
      · by_cases hab : a = b
        · subst hab
          exact chain_low hD hT hb hrb hvb (.refl _)
        · exact (chain_on hD hT hb hrb hvb).2 (.inr ((hr a).2 fun p hp kp => hI.snd p a kp (must_pred next a b p h hab hp)))
    · rcases old v kv with rfl | kv'
      · exact absurd (.refl _) hvb
      · exact (chain_off hD hT hb hrb hvb).2 (hI.snd v a kv' hm)
  · intro c p kc hp hpl
    rcases old c kc with rfl | kc'
    · exact mono p (hprev p hp (by omega))
    · exact mono p (hI.kd c p kc' hp hpl)
  · intro c u p e hp hpl hcj x hx
    rw [hup] at e
    by_cases h : c = b
    · rw [if_pos h] at e
      cases e
      subst h
      have h1 := (chain_r hD hT hb hrb).1 hx
      exact (chain_small hD hT hb hrb hpl).2 ((hr x).1 h1 p hp (hprev p hp.1 (by omega)))
    · rw [if_neg h] at e
      have hc := hT.par c u e
      have hne : rd pl c ≠ rd pl b := fun hh => h (hD.inj c b hc.1 hbR hh)
      have h1 := (chain_small hD hT hb hrb (x := u) (by omega)).1 hx
      exact (chain_small hD hT hb hrb (by omega)).2 (hI.ea c u p e hp hpl (by omega) x h1)
  · intro c u p e hp hpl x hx hxj
    rw [hup] at e
    by_cases h : c = b
    · rw [if_pos h] at e
      cases e
      have h1 := (chain_r hD hT hb hrb).1 hx
      rcases Anc.le hD hT h1 with rfl | h2 <;> omega
    · rw [if_neg h] at e
      have h1 := (chain_far hD hT hb hrb (by omega)).1 hx
      exact (chain_far hD hT hb hrb (by omega)).2 (hI.eb c u p e hp hpl x h1 (by omega))
  · intro c u e x hall
    rw [hup] at e
    by_cases h : c = b
    · rw [if_pos h] at e
      cases e
      subst h
      exact (chain_r hD hT hb hrb).2 ((hr x).2 fun p hp kp => shrink p x kp (hall p hp (mono p kp)))
    · rw [if_neg h] at e
      have hx := hI.jj c u e x fun p hp kp => shrink p x kp (hall p hp (mono p kp))
      by_cases hub : Anc ab u b
      · rcases hx.lin hub with h1 | h1
        · exact (chain_on hD hT hb hrb hub).2 (.inl ⟨hx, h1⟩)
        · by_cases hxb : x = b
          · subst hxb
            exact chain_low hD hT hb hrb hub (.refl _)
          · have kc : Kn ab c := .inr ⟨u, e⟩
            obtain ⟨p, hp, hpl⟩ := hD.fwd c (Kn.rt hD hT kc) (nz c u e)
            have kp := hI.kd c p kc hp.1 hpl
            have hpb := hI.eb c u p e hp hpl b hub (by omega)
            rcases (chain_on hD hT hb hrb hpb).1 (hall p hp (mono p kp)) with ⟨_, h2⟩ | h2
            · exfalso
              rcases Anc.le hD hT h1 with h3 | h3
              · exact hxb h3.symm
              · rcases Anc.le hD hT h2 with h4 | h4
                · exact hxb h4
                · omega
            · exact (chain_on hD hT hb hrb hub).2 (.inr h2)
      · exact (chain_off hD hT hb hrb hub).2 hx
end Go.Proofs.Ytnlapancooecjaa
