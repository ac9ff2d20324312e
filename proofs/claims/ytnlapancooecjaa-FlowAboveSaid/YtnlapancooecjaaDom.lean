/- The rows of those above, by ab: what the meeting of two is, and the best of many. Conditions: none. Plain Lean. -/
import Derived.Test.YtnlapancooecjaaRel
import Derived.Test.YtnlapancooecjaaAbv
namespace Go.Proofs.Ytnlapancooecjaa
open Go.RowKit Go.Proofs.YtnlapancooecjaaW.PrintWords
set_option linter.unusedVariables false
set_option linter.unusedSimpArgs false
set_option linter.unusedSectionVars false

def up (ab : List Int) (v : Nat) : Option Nat := if v < ab.length ∧ 0 ≤ rd ab v then some (rd ab v).toNat else none
inductive Anc (ab : List Int) : Nat → Nat → Prop
  | refl (x : Nat) : Anc ab x x
  | step {x y z : Nat} : up ab x = some y → Anc ab y z → Anc ab x z
def Kn (ab : List Int) (v : Nat) : Prop := v = 0 ∨ ∃ u, up ab v = some u
def Pd (next : List (List Int)) (p c : Nat) : Prop := Rt next (-1) p ∧ (c : Int) ∈ succs next p ∧ c < next.length

structure Dm (next : List (List Int)) (pl : List Int) : Prop where
  n0 : 0 < next.length
  pln : pl.length = next.length
  pl0 : rd pl (0 : Nat) = 0
  plnn : ∀ v : Nat, 0 ≤ rd pl v
  plle : ∀ v : Nat, rd pl v ≤ next.length
  inj : ∀ u v : Nat, Rt next (-1) u → Rt next (-1) v → rd pl u = rd pl v → u = v
  fwd : ∀ v : Nat, Rt next (-1) v → v ≠ 0 → ∃ p : Nat, Pd next p v ∧ rd pl p < rd pl v
structure Tr (next : List (List Int)) (pl ab : List Int) : Prop where
  len : ab.length = next.length
  z : up ab 0 = none
  lo : ∀ v : Nat, -1 ≤ rd ab v
  par : ∀ v u : Nat, up ab v = some u → Rt next (-1) v ∧ Kn ab u ∧ rd pl u < rd pl v

theorem Anc.trans {ab : List Int} {x y z : Nat} (h : Anc ab x y) (k : Anc ab y z) : Anc ab x z := by
  induction h with
  | refl => exact k
  | step e _ ih => exact .step e (ih k)
theorem Anc.cases_ {ab : List Int} {x z : Nat} (h : Anc ab x z) : x = z ∨ ∃ y, up ab x = some y ∧ Anc ab y z := by
  cases h with
  | refl => exact .inl rfl
  | step e h => exact .inr ⟨_, e, h⟩
theorem Anc.lin {ab : List Int} {x y z : Nat} (h : Anc ab x y) (k : Anc ab x z) : Anc ab y z ∨ Anc ab z y := by
  induction h with
  | refl => exact .inl k
  | step e h ih =>
    rcases k.cases_ with rfl | ⟨y', e', k'⟩
    · exact .inr (.step e h)
    · rw [e] at e'
      cases e'
      exact ih k'
section
variable {next : List (List Int)} {pl ab : List Int} (hD : Dm next pl) (hT : Tr next pl ab)
include hD hT
theorem Kn.rt {v : Nat} (h : Kn ab v) : Rt next (-1) v := by
  rcases h with rfl | ⟨u, h⟩
  · exact .zero hD.n0
  · exact (hT.par v u h).1
theorem Anc.le {x z : Nat} (h : Anc ab x z) : x = z ∨ rd pl z < rd pl x := by
  induction h with
  | refl => exact .inl rfl
  | step e h ih =>
    have := (hT.par _ _ e).2.2
    rcases ih with rfl | ih
    · exact .inr this
    · exact .inr (by omega)
theorem Anc.kn {x z : Nat} (h : Anc ab x z) (hx : Kn ab x) : Kn ab z := by
  induction h with
  | refl => exact hx
  | step e h ih => exact ih (hT.par _ _ e).2.1
theorem Kn.zero {x : Nat} (hx : Kn ab x) : Anc ab x 0 := by
  have : ∀ (m : Nat) (x : Nat), (rd pl x).toNat ≤ m → Kn ab x → Anc ab x 0 := by
    intro m
    induction m with
    | zero =>
      intro x hm hx
      rcases hx with rfl | ⟨u, e⟩
      · exact .refl 0
      · have := (hT.par _ _ e).2.2
        have := hD.plnn u
        omega
    | succ m ih =>
      intro x hm hx
      rcases hx with rfl | ⟨u, e⟩
      · exact .refl 0
      · have h3 := (hT.par _ _ e).2
        have := hD.plnn u
        exact .step e (ih u (by omega) h3.1)
  exact this _ x (Nat.le_refl _) hx

theorem climb_spec (k : Nat) : ∀ a b : Nat, Kn ab a → Kn ab b → rd pl a < k → ∃ r : Nat, climb pl ab k a b = some (r : Int) ∧ Kn ab r ∧ Anc ab a r ∧ rd pl r ≤ rd pl b ∧ (∀ z, Anc ab a z → Anc ab b z → Anc ab r z) ∧ (rd pl a ≤ rd pl b → r = a) := by
  induction k with
  | zero => intro a b _ _ h; have := hD.plnn a; omega
  | succ k ih =>
    intro a b ha hb hk
    have la := (Kn.rt hD hT ha).lt
    have lb := (Kn.rt hD hT hb).lt
    have hpl := hD.pln
    rw [climb, if_pos ⟨by omega, by omega, by omega, by omega⟩]
    by_cases h : rd pl b < rd pl a
    · rw [if_pos h]
      have hb0 := hD.plnn b
      rcases ha with rfl | ⟨u, e⟩
      · rw [hD.pl0] at h; omega
      · have h3 := (hT.par _ _ e).2
        have hu : rd ab a = (u : Int) := by
          unfold up at e
          split at e
          · next h0 => cases e; omega
          · cases e
        rw [hu]
        obtain ⟨r, hr, kr, ar, lr, mr, _⟩ := ih u b h3.1 hb (by omega)
        refine ⟨r, hr, kr, .step e ar, lr, ?_, fun hh => absurd h (by omega)⟩
        intro z hz hbz
        rcases hz.cases_ with rfl | ⟨y, e', k'⟩
        · rcases Anc.le hD hT hbz with rfl | hlt
          · omega
          · omega
        · rw [e] at e'
          cases e'
          exact mr z k' hbz
    · rw [if_neg h]
      exact ⟨a, rfl, ha, .refl a, by omega, fun z hz _ => hz, fun _ => rfl⟩

theorem meet_spec (k : Nat) : ∀ a b : Nat, Kn ab a → Kn ab b → rd pl a + rd pl b + 1 < k → ∃ r : Nat, meetF pl ab k a b = some (r : Int) ∧ Kn ab r ∧ ∀ z, Anc ab r z ↔ (Anc ab a z ∧ Anc ab b z) := by
  induction k with
  | zero => intro a b _ _ h; have := hD.plnn a; have := hD.plnn b; omega
  | succ k ih =>
    intro a b ha hb hk
    have p1 := hD.plnn a
    have p2 := hD.plnn b
    rw [meetF]
    by_cases hab : a = b
    · subst hab
      rw [if_pos rfl]
      exact ⟨a, rfl, ha, fun z => ⟨fun h => ⟨h, h⟩, fun h => h.1⟩⟩
    · rw [if_neg (by omega)]
      have hne : rd pl a ≠ rd pl b := fun h => hab (hD.inj a b (Kn.rt hD hT ha) (Kn.rt hD hT hb) h)
      by_cases hz : k = 0
      · subst hz; omega
      have hk1 : ∀ x : Nat, 0 ≤ rd pl x := hD.plnn
      obtain ⟨a', ea, ka, aa, la, ma, na⟩ := climb_spec hD hT k a b ha hb (by omega)
      obtain ⟨b', eb, kb, bb, lb, mb, nb⟩ := climb_spec hD hT k b a' hb ka (by omega)
      rw [ea]
      simp only [Option.bind_some]
      rw [eb]
      simp only [Option.bind_some]
      have hdec : rd pl a' + rd pl b' + 1 < k := by
        rcases Anc.le hD hT aa with rfl | h1
        · rcases Anc.le hD hT bb with rfl | h2
          · omega
          · omega
        · rcases Anc.le hD hT bb with rfl | h2
          · omega
          · omega
      obtain ⟨r, hr, kr, mr⟩ := ih a' b' ka kb hdec
      refine ⟨r, hr, kr, fun z => ?_⟩
      rw [mr]
      constructor
      · rintro ⟨h1, h2⟩
        exact ⟨aa.trans h1, bb.trans h2⟩
      · rintro ⟨h1, h2⟩
        have h3 := ma z h1 h2
        exact ⟨h3, mb z h2 h3⟩

theorem kn_rd (v : Nat) (hv : v < next.length) : Kn ab v ↔ (v = 0 ∨ 0 ≤ rd ab v) := by
  unfold Kn up
  constructor
  · rintro (h | ⟨u, h⟩)
    · exact .inl h
    · split at h
      · next h0 => exact .inr h0.2
      · cases h
  · rintro (h | h)
    · exact .inl h
    · exact .inr ⟨_, by rw [if_pos ⟨by rw [hT.len]; exact hv, h⟩]⟩

def encO : Option Nat → Int
  | none => -1
  | some u => u

theorem step_spec (k : Nat) (hk : 2 * next.length + 1 < k) (o : Option Nat) (p : Nat) (hpn : p < next.length) (ho : ∀ u, o = some u → Kn ab u) :
    ∃ o', stepBest k pl ab (encO o) p = some (encO o') ∧ (∀ u, o' = some u → Kn ab u) ∧ (o' = none ↔ o = none ∧ ¬ Kn ab p) ∧ ∀ r, o' = some r → ∀ z, Anc ab r z ↔ ((∀ u, o = some u → Anc ab u z) ∧ (Kn ab p → Anc ab p z)) := by
  unfold stepBest
  have hkn := kn_rd hD hT p hpn
  by_cases hp : Kn ab p
  · rw [if_neg (by have := hkn.1 hp; omega)]
    cases o with
    | none =>
      rw [if_pos (by simp [encO])]
      refine ⟨some p, rfl, fun u e => by cases e; exact hp, by simp [hp], ?_⟩
      intro r e z
      cases e
      simp [hp]
    | some u =>
      rw [if_neg (by simp [encO])]
      have l1 := hD.plle u
      have l2 := hD.plle p
      obtain ⟨r, hr, kr, mr⟩ := meet_spec hD hT k u p (ho u rfl) hp (by omega)
      refine ⟨some r, hr, fun u e => by cases e; exact kr, by simp, ?_⟩
      intro r' e z
      cases e
      rw [mr]
      simp [hp]
  · rw [if_pos (by have : ¬ (p = 0 ∨ 0 ≤ rd ab p) := fun h => hp (hkn.2 h); omega)]
    refine ⟨o, rfl, ho, by simp [hp], ?_⟩
    intro r e z
    subst e
    simp [hp]

theorem best_spec (k : Nat) (hk : 2 * next.length + 1 < k) (ps : List Int) : ∀ (o : Option Nat), (∀ p ∈ ps, 0 ≤ p ∧ p < next.length) → (∀ u, o = some u → Kn ab u) →
    ∃ o', bestL k pl ab ps (encO o) = some (encO o') ∧ (∀ u, o' = some u → Kn ab u) ∧ (o' = none ↔ o = none ∧ ∀ u : Nat, (u : Int) ∈ ps → ¬ Kn ab u) ∧ ∀ r, o' = some r → ∀ z, Anc ab r z ↔ ((∀ u, o = some u → Anc ab u z) ∧ ∀ u : Nat, (u : Int) ∈ ps → Kn ab u → Anc ab u z) := by
  induction ps with
  | nil =>
    intro o _ ho
    refine ⟨o, rfl, ho, by simp, ?_⟩
    intro r e z
    subst e
    simp
  | cons p ps ih =>
    intro o hps ho
    have hp0 := hps p List.mem_cons_self
    obtain ⟨p, rfl⟩ := Int.eq_ofNat_of_zero_le hp0.1
    obtain ⟨o1, e1, k1, n1, m1⟩ := step_spec hD hT k hk o p (by omega) ho
    obtain ⟨o2, e2, k2, n2, m2⟩ := ih o1 (fun q hq => hps q (List.mem_cons_of_mem _ hq)) k1
    refine ⟨o2, ?_, k2, ?_, ?_⟩
    · rw [bestL, e1]
      exact e2
    · rw [n2, n1]
      constructor
      · rintro ⟨⟨h1, h2⟩, h3⟩
        refine ⟨h1, fun u hu => ?_⟩
        rcases List.mem_cons.1 hu with h | h
        · have : u = p := by omega
          subst this
          exact h2
        · exact h3 u h
      · rintro ⟨h1, h2⟩
        exact ⟨⟨h1, h2 p List.mem_cons_self⟩, fun u hu => h2 u (List.mem_cons_of_mem _ hu)⟩
    · intro r e z
      rw [m2 r e]
      constructor
      · rintro ⟨h1, h2⟩
        refine ⟨fun u hu => ?_, fun u hu ku => ?_⟩
        · cases o1 with
          | none => have := (n1.1 rfl).1; rw [this] at hu; cases hu
          | some r1 => exact ((m1 r1 rfl z).1 (h1 r1 rfl)).1 u hu
        · rcases List.mem_cons.1 hu with h | h
          · have : u = p := by omega
            subst this
            cases o1 with
            | none => exact absurd ku (n1.1 rfl).2
            | some r1 => exact ((m1 r1 rfl z).1 (h1 r1 rfl)).2 ku
          · exact h2 u h ku
      · rintro ⟨h1, h2⟩
        refine ⟨fun u hu => ?_, fun u hu ku => h2 u (List.mem_cons_of_mem _ hu) ku⟩
        exact (m1 u hu z).2 ⟨h1, fun kp => h2 p List.mem_cons_self kp⟩
end
end Go.Proofs.Ytnlapancooecjaa
