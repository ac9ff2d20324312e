/- Above's sweeps end, and what they end with is the rows of those that must be gone through. Conditions: none. Plain Lean. -/
import Derived.Test.YtnlapancooecjaaDom
namespace Go.Proofs.Ytnlapancooecjaa
open Go.RowKit Go.Proofs.YtnlapancooecjaaW.PrintWords
set_option linter.unusedVariables false
set_option linter.unusedSimpArgs false
set_option linter.unusedSectionVars false

structure Od (next : List (List Int)) (pl : List Int) (fr : List (List Int)) (ord : List Int) : Prop where
  mem : ∀ j : Nat, j < ord.length → ∃ v : Nat, ord[j]? = some (v : Int) ∧ Rt next (-1) v ∧ rd pl v = j
  zero : ord[0]? = some 0
  all : ∀ v : Nat, Rt next (-1) v → ∃ j : Nat, j < ord.length ∧ ord[j]? = some (v : Int)
  frm : ∀ c : Nat, c < next.length → ∀ u : Nat, (u : Int) ∈ fr.getD c [] ↔ Pd next u c
  frn : ∀ c : Nat, ∀ x ∈ fr.getD c [], 0 ≤ x ∧ x < next.length

def mu (pl ab : List Int) : Nat := (ab.map fun u => (rd pl u).toNat).sum
theorem mu_set (pl : List Int) : ∀ (ab : List Int) (b : Nat) (x : Int), b < ab.length → mu pl (ab.set b x) + (rd pl (rd ab (b : Nat))).toNat = mu pl ab + (rd pl x).toNat := by
  intro ab
  induction ab with
  | nil => intro b x h; simp at h
  | cons y ys ih =>
    intro b x h
    cases b with
    | zero => simp [mu, rd]; omega
    | succ b =>
      have := ih b x (by simpa using h)
      simp only [mu, rd, List.set_cons_succ, List.map_cons, List.sum_cons, Int.toNat_natCast, List.getD_cons_succ] at this ⊢
      omega

def Fx (next : List (List Int)) (ab : List Int) (b : Nat) : Prop := ∃ u, up ab b = some u ∧ ∀ z, Anc ab u z ↔ ∀ p, Pd next p b → Kn ab p → Anc ab p z

theorem sweep_spec {next : List (List Int)} {pl : List Int} {fr : List (List Int)} {ord : List Int} (hD : Dm next pl) (hO : Od next pl fr ord) (k : Nat) (hk : 2 * next.length + 1 < k) : ∀ (bs : List Int) (j : Nat) (ab : List Int) (more : Bool), 1 ≤ j → j ≤ ord.length → ord.drop j = bs →
    Iv next pl ab j → (∀ p : Nat, Rt next (-1) p → rd pl p < j → Kn ab p) →
    ∃ ab' more', sweepL k pl fr bs ab more = some (ab', more') ∧ Iv next pl ab' ord.length ∧ (∀ v : Nat, Rt next (-1) v → Kn ab' v) ∧
      ((∀ v : Nat, Rt next (-1) v → Kn ab v) → mu pl ab' ≤ mu pl ab ∧ (more' = true → more = true ∨ mu pl ab' < mu pl ab)) ∧ (more' = false → more = false ∧ ab' = ab ∧ ∀ b ∈ bs, Fx next ab b.toNat) := by
  intro bs
  induction bs with
  | nil =>
    intro j ab more hj hjl hd hI hp
    have hjj : j = ord.length := by
      have := congrArg List.length hd
      simp at this
      omega
    subst hjj
    refine ⟨ab, more, rfl, hI, ?_, fun _ => ⟨Nat.le_refl _, fun h => .inl h⟩, fun h => ⟨h, rfl, by simp⟩⟩
    intro v hv
    obtain ⟨i, hi, hvi⟩ := hO.all v hv
    obtain ⟨v', e, _, hpl⟩ := hO.mem i hi
    rw [hvi] at e
    have : v = v' := by injection e with e; omega
    subst this
    exact hp v hv (by omega)
  | cons x bs ih =>
    intro j ab more hj hjl hd hI hp
    have hjlt : j < ord.length := by
      have := congrArg List.length hd
      simp at this
      omega
    obtain ⟨b, hb, hbR, hbj⟩ := hO.mem j hjlt
    have hx : x = (b : Int) := by
      have h : (ord.drop j)[0]? = (x :: bs)[0]? := by rw [hd]
      rw [List.getElem?_drop, Nat.add_zero, hb] at h
      simpa using h.symm
    subst hx
    have hd' : ord.drop (j + 1) = bs := by
      rw [← List.drop_drop, hd]
      rfl
    have hb0 : b ≠ 0 := by
      rintro rfl
      rw [hD.pl0] at hbj
      omega
    have hT := hI.tr
    obtain ⟨f, hf, hfl⟩ := hD.fwd b hbR hb0
    have kf : Kn ab f := hp f hf.1 (by omega)
    obtain ⟨o', ho, ko, no, mo⟩ := best_spec hD hT k hk (fr.getD b []) none (hO.frn b) (by simp)
    cases o' with
    | none => exact absurd kf ((no.1 rfl).2 f ((hO.frm b hbR.lt f).2 hf))
    | some r =>
      have kr := ko r rfl
      have hr : ∀ z, Anc ab r z ↔ ∀ p, Pd next p b → Kn ab p → Anc ab p z := by
        intro z
        rw [mo r rfl z]
        constructor
        · rintro ⟨_, h⟩ p hp kp
          exact h p ((hO.frm b hbR.lt p).2 hp) kp
        · intro h
          exact ⟨by simp, fun u hu ku => h u ((hO.frm b hbR.lt u).1 hu) ku⟩
      obtain ⟨hI', mono, kb, down⟩ := eval_step hD hI hbR hbj hb0 hp kr hr
      have hbl : b < ab.length := by rw [hT.len]; exact hbR.lt
      have hp' : ∀ p : Nat, Rt next (-1) p → rd pl p < ((j + 1 : Nat) : Int) → Kn (ab.set b (r : Int)) p := by
        intro p hpR hpl
        by_cases h : rd pl p = j
        · have : p = b := hD.inj p b hpR hbR (by omega)
          subst this
          exact kb
        · exact mono p (hp p hpR (by omega))
      have ho' : bestL k pl ab (fr.getD b []) (-1) = some (r : Int) := ho
      simp only [sweepL, Int.toNat_natCast]
      rw [ho']
      simp only [Option.bind_some]
      by_cases hc : rd ab (b : Int) = (r : Int)
      · rw [if_pos hc]
        have hset : ab.set b (r : Int) = ab := by
          rw [← hc]
          apply List.ext_getElem?
          intro i
          by_cases h : b = i
          · subst h
            rw [List.getElem?_set_self hbl]
            simp [rd, List.getElem?_eq_getElem hbl]
          · rw [List.getElem?_set_ne h]
        rw [hset] at hI' hp'
        have hfx : Fx next ab b := ⟨r, by unfold up; rw [hc, if_pos ⟨hbl, by omega⟩]; simp, hr⟩
        obtain ⟨ab', more', e, i1, i2, i3, i4⟩ := ih (j + 1) ab more (by omega) (by omega) hd' (by simpa using hI') hp'
        refine ⟨ab', more', e, i1, i2, i3, fun h => ?_⟩
        obtain ⟨h1, h2, h3⟩ := i4 h
        refine ⟨h1, h2, ?_⟩
        intro y hy
        rcases List.mem_cons.1 hy with rfl | hy
        · exact hfx
        · exact h3 y hy
      · rw [if_neg hc]
        obtain ⟨ab', more', e, i1, i2, i3, i4⟩ := ih (j + 1) (ab.set b (r : Int)) true (by omega) (by omega) hd' (by simpa using hI') hp'
        refine ⟨ab', more', e, i1, i2, ?_, fun h => ?_⟩
        · intro hall
          obtain ⟨h1, h2⟩ := i3 fun v hv => mono v (hall v hv)
          have hlt : mu pl (ab.set b (r : Int)) < mu pl ab := by
            rcases hall b hbR with h | ⟨u, hu⟩
            · exact absurd h hb0
            · have hd := down u hu
              have hm := mu_set pl ab b r hbl
              have hru : rd ab (b : Int) = (u : Int) := by
                unfold up at hu
                split at hu
                · cases hu; omega
                · cases hu
              rw [hru] at hm hc
              have p1 := hD.plnn u
              have p2 := hD.plnn r
              rcases Anc.le hD hT hd with h | h
              · omega
              · omega
          exact ⟨by omega, fun _ => .inr (by omega)⟩
        · have := (i4 h).1
          simp at this

theorem Od.place {next : List (List Int)} {pl : List Int} {fr : List (List Int)} {ord : List Int} (hO : Od next pl fr ord) {v : Nat} (hv : Rt next (-1) v) : rd pl v < ord.length ∧ ∃ j : Nat, ord[j]? = some (v : Int) ∧ rd pl v = j := by
  obtain ⟨i, hi, hvi⟩ := hO.all v hv
  obtain ⟨v', e, _, hpl⟩ := hO.mem i hi
  rw [hvi] at e
  have : v = v' := by injection e with e; omega
  subst this
  exact ⟨by omega, i, hvi, hpl⟩
theorem iv_again {next : List (List Int)} {pl ab : List Int} {fr : List (List Int)} {ord : List Int} (hO : Od next pl fr ord) (hI : Iv next pl ab ord.length) : Iv next pl ab ((1 : Nat) : Int) := by
  have h : ∀ c u : Nat, up ab c = some u → rd pl c < ord.length := fun c u e => (hO.place (hI.tr.par c u e).1).1
  refine ⟨hI.tr, hI.snd, hI.kd, fun c u p e hp hpl _ => hI.ea c u p e hp hpl (h c u e), fun c u p e hp hpl x hx _ => hI.ea c u p e hp hpl (h c u e) x hx, hI.jj⟩

def AbDone (next : List (List Int)) (pl : List Int) (ord r : List Int) : Prop := Iv next pl r ord.length ∧ (∀ v : Nat, Rt next (-1) v → Kn r v) ∧ ∀ b : Nat, Rt next (-1) b → b ≠ 0 → Fx next r b

theorem one_sweep {next : List (List Int)} {pl : List Int} {fr : List (List Int)} {ord : List Int} (hD : Dm next pl) (hO : Od next pl fr ord) (k : Nat) (hk : 2 * next.length + 1 < k) (ab : List Int) (hI : Iv next pl ab ((1 : Nat) : Int)) :
    ∃ ab' more', sweepL k pl fr ord.tail ab false = some (ab', more') ∧ Iv next pl ab' ord.length ∧ (∀ v : Nat, Rt next (-1) v → Kn ab' v) ∧
      ((∀ v : Nat, Rt next (-1) v → Kn ab v) → more' = true → mu pl ab' < mu pl ab) ∧ (more' = false → AbDone next pl ord ab') := by
  have hl : 1 ≤ ord.length := by
    have := (List.getElem?_eq_some_iff.1 hO.zero).1
    omega
  obtain ⟨ab', more', e, i1, i2, i3, i4⟩ := sweep_spec hD hO k hk ord.tail 1 ab false (Nat.le_refl _) hl (by simp) hI (by
    intro p hp hpl
    have h0 := hD.plnn p
    have : p = 0 := hD.inj p 0 hp (.zero hD.n0) (by
      have h1 := hD.pl0
      show rd pl p = rd pl ((0 : Nat) : Int)
      rw [h1]
      omega)
    exact .inl this)
  refine ⟨ab', more', e, i1, i2, fun h hm => ?_, fun hm => ⟨i1, i2, ?_⟩⟩
  · rcases (i3 h).2 hm with h1 | h1
    · cases h1
    · exact h1
  · obtain ⟨_, h2, h3⟩ := i4 hm
    intro b hb hb0
    obtain ⟨_, j, hj, _⟩ := hO.place hb
    have hj0 : j ≠ 0 := by
      rintro rfl
      rw [hO.zero] at hj
      injection hj with hj
      omega
    have hm : (b : Int) ∈ ord.tail := by
      rw [← List.drop_one]
      refine List.mem_of_getElem? (i := j - 1) ?_
      rw [List.getElem?_drop]
      rw [show 1 + (j - 1) = j by omega]
      exact hj
    have := h3 _ hm
    rw [h2]
    simpa using this

theorem above_loop {next : List (List Int)} {pl : List Int} {fr : List (List Int)} {ord : List Int} (hD : Dm next pl) (hO : Od next pl fr ord) (k : Nat) (hk : 2 * next.length + 1 < k) (m : Nat) : ∀ ab : List Int, Iv next pl ab ((1 : Nat) : Int) → (∀ v : Nat, Rt next (-1) v → Kn ab v) → mu pl ab < m →
    ∃ r, aboveL k pl fr ord m ab = some r ∧ AbDone next pl ord r := by
  induction m with
  | zero => intro ab _ _ h; omega
  | succ m ih =>
    intro ab hI hall hm
    obtain ⟨ab', more', e, i1, i2, i3, i4⟩ := one_sweep hD hO k hk ab hI
    rw [aboveL, e]
    simp only [Option.bind_some]
    cases more' with
    | false => exact ⟨ab', by simp, i4 rfl⟩
    | true =>
      have := i3 hall rfl
      obtain ⟨r, hr, hd⟩ := ih ab' (iv_again hO i1) i2 (by omega)
      exact ⟨r, by simpa using hr, hd⟩

theorem mu_le (pl : List Int) (n : Nat) (h : ∀ v : Int, rd pl v ≤ n) (ab : List Int) : mu pl ab ≤ ab.length * n := by
  induction ab with
  | nil => simp [mu]
  | cons x xs ih =>
    have := h x
    simp only [mu, List.map_cons, List.sum_cons, List.length_cons] at ih ⊢
    rw [Nat.add_mul]
    omega

theorem iv_start {next : List (List Int)} {pl : List Int} (hD : Dm next pl) : Iv next pl (List.replicate next.length (-1)) ((1 : Nat) : Int) := by
  have hr : ∀ v : Nat, v < next.length → rd (List.replicate next.length (-1)) v = -1 := by
    intro v h
    simp [rd, h]
  have hu : ∀ v : Nat, up (List.replicate next.length (-1)) v = none := by
    intro v
    unfold up
    rw [if_neg]
    rintro ⟨h1, h2⟩
    rw [List.length_replicate] at h1
    rw [hr v h1] at h2
    omega
  have hk : ∀ v, Kn (List.replicate next.length (-1)) v → v = 0 := by
    rintro v (h | ⟨u, h⟩)
    · exact h
    · rw [hu] at h
      cases h
  have hr0 : ∀ v : Nat, -1 ≤ rd (List.replicate next.length (-1)) v := by
    intro v
    by_cases h : v < next.length
    · rw [hr v h]; exact Int.le_refl _
    · unfold rd
      rw [List.getD_eq_getElem?_getD, List.getElem?_eq_none (by simp; omega)]
      simp
  refine ⟨⟨by simp, hu 0, hr0, fun v u e => by rw [hu] at e; cases e⟩, ?_, ?_, fun c u p e => by (rw [hu] at e; cases e), fun c u p e => by (rw [hu] at e; cases e), fun c u e => by (rw [hu] at e; cases e)⟩
  · intro v a hv hm
    have := hk v hv
    subst this
    rw [must_iff] at hm
    rcases hm.2.2 with h | h
    · subst h; exact .refl _
    · exact absurd (.zero hD.n0) h
  · intro c p hc hp hpl
    have := hk c hc
    subst this
    have := hD.plnn p
    have := hD.pl0
    omega
end Go.Proofs.Ytnlapancooecjaa

/- What Above ends with: by it a row is that of those that must be gone through, and the next one up is the nearest. Conditions: none. Plain Lean. -/
namespace Go.Proofs.Ytnlapancooecjaa
open Go.RowKit Go.Proofs.YtnlapancooecjaaW.PrintWords
set_option linter.unusedVariables false
set_option linter.unusedSimpArgs false

theorem above_ends {next : List (List Int)} {pl : List Int} {fr : List (List Int)} {ord : List Int} (hD : Dm next pl) (hO : Od next pl fr ord) (hle : ∀ v : Int, rd pl v ≤ next.length) (k : Nat) (hk : 2 * next.length + 1 < k) (hk2 : next.length * next.length + 1 < k) :
    ∃ r, aboveL k pl fr ord k (List.replicate next.length (-1)) = some r ∧ AbDone next pl ord r := by
  obtain ⟨ab', more', e, i1, i2, _, i4⟩ := one_sweep hD hO k hk _ (iv_start hD)
  cases hkk : k with
  | zero => omega
  | succ m =>
    rw [hkk] at e
    rw [aboveL, e]
    simp only [Option.bind_some]
    cases more' with
    | false => exact ⟨ab', by simp, i4 rfl⟩
    | true =>
      have hm := mu_le pl next.length hle ab'
      rw [i1.tr.len] at hm
      obtain ⟨r, hr, hd⟩ := above_loop hD hO k hk m ab' (iv_again hO i1) i2 (by omega)
      rw [hkk] at hr
      exact ⟨r, by simpa using hr, hd⟩

theorem Rt.weak {next : List (List Int)} {a : Int} {v : Nat} (h : Rt next a v) : Rt next (-1) v := by
  induction h with
  | zero h => exact .zero h
  | step u y hu hua hy h0 h1 ih => exact .step u y ih (by omega) hy h0 h1

theorem must_anc {next : List (List Int)} {pl : List Int} {ord r : List Int} (hD : Dm next pl) (h : AbDone next pl ord r) (v a : Nat) (hv : Rt next (-1) v) : mustF next a v = true ↔ Anc r v a := by
  obtain ⟨hI, hall, hfx⟩ := h
  have hT := hI.tr
  constructor
  · exact hI.snd v a (hall v hv)
  · intro ha
    have hz : ∀ z, Anc r 0 z → z = 0 := by
      intro z h
      rcases h.cases_ with h | ⟨y, e, _⟩
      · exact h.symm
      · rw [hT.z] at e; cases e
    rw [must_iff]
    refine ⟨(Kn.rt hD hT (Anc.kn hD hT ha (hall v hv))).lt, hv, ?_⟩
    by_cases hva : v = a
    · exact .inl hva
    · refine .inr fun hr => ?_
      have key : ∀ v, Rt next a v → v = a ∨ ¬ Anc r v a := by
        intro v hr
        induction hr with
        | zero h0 =>
          by_cases h : 0 = a
          · exact .inl h
          · exact .inr fun hh => h (hz _ hh).symm
        | step u y hu hua hy h0 h1 ih =>
          obtain ⟨v, rfl⟩ := Int.eq_ofNat_of_zero_le h0
          rw [Int.toNat_natCast]
          by_cases h : v = a
          · exact .inl h
          · refine .inr fun hh => ?_
            have hp : Pd next u v := ⟨hu.weak, hy, by omega⟩
            have hvR : Rt next (-1) v := by
              have := Rt.step u (v : Int) hu.weak (by omega) hy (by omega) h1
              rwa [Int.toNat_natCast] at this
            by_cases hv0 : v = 0
            · subst hv0
              exact h (hz _ hh).symm
            · obtain ⟨w, e, hw⟩ := hfx v hvR hv0
              rcases hh.cases_ with h2 | ⟨w', e', h2⟩
              · exact h h2
              · rw [e] at e'
                cases e'
                have h3 := (hw a).1 h2 u hp (hall u hu.weak)
                rcases ih with h4 | h4
                · omega
                · exact h4 h3
      rcases key v hr with h | h
      · exact hva h
      · exact h ha

/-- The nearest one up. -/
theorem near_some {next : List (List Int)} {pl : List Int} {ord r : List Int} (hD : Dm next pl) (h : AbDone next pl ord r) (b : Nat) (hb : Rt next (-1) b) (hb0 : b ≠ 0) :
    ∃ u : Nat, rd r (b : Int) = u ∧ u ≠ b ∧ u < next.length ∧ Rt next (-1) u ∧ rd pl u < rd pl b ∧ mustF next u b = true ∧ ∀ a : Nat, a ≠ b → mustF next a b = true → mustF next a u = true := by
  have hT := h.1.tr
  obtain ⟨u, e, _⟩ := h.2.2 b hb hb0
  have hp := hT.par b u e
  have hu := Kn.rt hD hT hp.2.1
  refine ⟨u, ?_, ?_, hu.lt, hu, hp.2.2, ?_, ?_⟩
  · unfold up at e
    split at e
    · cases e; omega
    · cases e
  · rintro rfl
    omega
  · exact (must_anc hD h b u hb).2 (.step e (.refl _))
  · intro a hab ha
    rcases ((must_anc hD h b a hb).1 ha).cases_ with h1 | ⟨u', e', h1⟩
    · exact absurd h1.symm hab
    · rw [e] at e'
      cases e'
      exact (must_anc hD h u a hu).2 h1
theorem near_none {next : List (List Int)} {pl : List Int} {ord r : List Int} (hD : Dm next pl) (h : AbDone next pl ord r) (b : Nat) (hbl : b < next.length) (hb : b = 0 ∨ ¬ Rt next (-1) b) : rd r (b : Int) = -1 := by
  have hT := h.1.tr
  have hn : up r b = none := by
    rcases hb with rfl | hb
    · exact hT.z
    · rcases e : up r b with _ | u
      · rfl
      · exact absurd (hT.par b u e).1 hb
  have := hT.lo b
  unfold up at hn
  split at hn
  · cases hn
  · next hh =>
    rw [hT.len] at hh
    have : ¬ 0 ≤ rd r (b : Int) := fun h => hh ⟨hbl, h⟩
    omega
end Go.Proofs.Ytnlapancooecjaa
