/- The reference's Without and Must tell what flow's depth first tells. Conditions: at most 100 blocks, of at most 400 ways each. -/
import Derived.Test.YtnlapancooecjaaMath
import Derived.Test.YtnlapancooecjaaMst
import Derived.Test.YtnlapancooecjaaAbv
import Derived.Test.YtnlapancooecjaaPFlowMustx2
namespace Go.Proofs.Ytnlapancooecjaa
open Go.RowKit Go.Proofs.YtnlapancooecjaaW.PrintWords
set_option linter.unusedSimpArgs false
set_option linter.unusedVariables false

/-! ### the reference's Without -/
structure Wi (next : List (List Int)) (a : Int) (out : List Bool) (todo : List Int) : Prop where
  len : out.length = next.length
  zero : 0 < next.length → mk out 0
  todo : ∀ x ∈ todo, 0 ≤ x ∧ x < next.length ∧ mk out x.toNat
  rt : ∀ v : Nat, mk out v → Rt next a v

def Done (next : List (List Int)) (a : Int) (out : List Bool) (v : Nat) : Prop := (v : Int) = a ∨ ∀ y ∈ succs next v, 0 ≤ y → y < next.length → mk out y.toNat

def Fin (next : List (List Int)) (a : Int) (r : List Bool) : Prop := r.length = next.length ∧ ∀ v : Nat, mk r v ↔ Rt next a v

theorem fin_of {next : List (List Int)} {a : Int} {out : List Bool} (h : Wi next a out []) (hd : ∀ v : Nat, mk out v → Done next a out v) : Fin next a out := by
  refine ⟨h.len, fun v => ⟨h.rt v, fun hr => ?_⟩⟩
  induction hr with
  | zero h0 => exact h.zero h0
  | step u y hu hua hy h0 h1 ih =>
    rcases hd u ih with e | e
    · exact absurd e hua
    · exact e y hy h0 h1

theorem Done.mono {next : List (List Int)} {a : Int} {out out' : List Bool} {v : Nat} (h : Done next a out v) (hs : ∀ u, mk out u → mk out' u) : Done next a out' v := by
  rcases h with h | h
  · exact .inl h
  · exact .inr fun y hy h0 h1 => hs _ (h y hy h0 h1)

theorem wrap_succ (i : Nat) (h : i ≤ 9223372036854775806) : wrap64 ((i : Int) + 1) = ((i + 1 : Nat) : Int) := by unfold wrap64; omega

open PFlowMust in
theorem wo_in (next : List (List Int)) (a : Int) (hl : ∀ b, (succs next b).length ≤ 400) (m : Nat) (hmb : m ≤ 100000) (ih : ∀ out todo, 2 * unseen out + todo.length ≤ m → Wi next a out todo → (∀ v : Nat, mk out v → (v : Int) ∈ todo ∨ Done next a out v) → ∃ r, Ev (fun k => seedcornref26_Without.l0 k next a out todo) r ∧ Fin next a r)
    (at_ : Nat) (hat : at_ < next.length) (hne : (at_ : Int) ≠ a) (hra : Rt next a at_) (d : Nat) : ∀ (i : Nat) (out : List Bool) (todo : List Int), (succs next at_).length - i = d → 2 * unseen out + todo.length ≤ m → Wi next a out todo →
      (∀ v : Nat, mk out v → (v : Int) ∈ todo ∨ v = at_ ∨ Done next a out v) → (∀ j, j < i → ∀ y, (succs next at_)[j]? = some y → 0 ≤ y → y < next.length → mk out y.toNat) →
      ∃ r, Ev (fun k => seedcornref26_Without.l1 k next a out todo at_ i) r ∧ Fin next a r := by
  induction d with
  | zero =>
    intro i out todo hd hm hW hdone hpre
    obtain ⟨r, hr, hF⟩ := ih out todo hm hW (by
      intro v hv
      rcases hdone v hv with h | h | h
      · exact .inl h
      · subst h
        right; right
        intro y hy h0 h1
        obtain ⟨j, hj⟩ := List.getElem?_of_mem hy
        have hjl := (List.getElem?_eq_some_iff.1 hj).1
        exact hpre j (by omega) y hj h0 h1
      · exact .inr h)
    refine ⟨r, Ev.step (f := fun k => seedcornref26_Without.j2 k next a out todo at_ i false) ?_ (Ev.step (f := fun k => seedcornref26_Without.l0 k next a out todo) ?_ hr), hF⟩
    · intro k
      simp only [seedcornref26_Without.l1]
      rw [if_pos (by omega), if_pos (by omega), if_neg (by show ¬ (i : Int) < ((succs next at_).length : Int); omega)]
    · intro k
      simp only [seedcornref26_Without.j2]
      rw [if_neg (by simp)]
  | succ d ihd =>
    intro i out todo hd hm hW hdone hpre
    have hi : i < (succs next at_).length := by omega
    have hli := hl at_
    obtain ⟨y, hy⟩ : ∃ y, (succs next at_)[i]? = some y := ⟨_, List.getElem?_eq_getElem hi⟩
    have hrd : rd (rd_L1 next at_) i = y := by
      show (succs next at_).getD _ 0 = y
      rw [Int.toNat_natCast, List.getD_eq_getElem?_getD, hy]
      rfl
    have hym : y ∈ succs next at_ := List.mem_of_getElem? hy
    have first : ∀ (r : List Bool), Ev (fun k => seedcornref26_Without.j2 k next a out todo at_ i true) r → Ev (fun k => seedcornref26_Without.l1 k next a out todo at_ i) r := by
      intro r h
      refine Ev.step (f := fun k => seedcornref26_Without.j2 k next a out todo at_ i true) ?_ h
      intro k
      simp only [seedcornref26_Without.l1]
      rw [if_pos (by omega), if_pos (by omega), if_pos (by show (i : Int) < ((succs next at_).length : Int); omega), show ((at_ : Int) != a) = true from by simpa using hne]
    have pre' : ∀ out', (∀ u, mk out u → mk out' u) → (0 ≤ y → y < next.length → mk out' y.toNat) → ∀ j, j < i + 1 → ∀ z, (succs next at_)[j]? = some z → 0 ≤ z → z < next.length → mk out' z.toNat := by
      intro out' hs hyo j hj z hz h0 h1
      rcases Nat.lt_succ_iff_lt_or_eq.1 hj with h | h
      · exact hs _ (hpre j h z hz h0 h1)
      · subst h
        rw [hy] at hz
        cases hz
        exact hyo h0 h1
    by_cases h0 : 0 ≤ y
    · by_cases h1 : y < next.length
      · obtain ⟨p, rfl⟩ := Int.eq_ofNat_of_zero_le h0
        have hpo : p < out.length := by rw [hW.len]; omega
        by_cases hseen : mk out p
        · obtain ⟨r, hr, hF⟩ := ihd (i + 1) out todo (by omega) hm hW hdone (pre' out (fun _ h => h) (fun _ _ => by rw [Int.toNat_natCast]; exact hseen))
          refine ⟨r, first r (Ev.step (f := fun k => seedcornref26_Without.l1 k next a out todo at_ ((i + 1 : Nat) : Int)) ?_ hr), hF⟩
          intro k
          simp only [seedcornref26_Without.j2]
          have hrs : rdOf false out (p : Int) = true := by
            unfold rdOf
            rw [Int.toNat_natCast, List.getD_eq_getElem?_getD, hseen]
            rfl
          rw [hrd, if_pos trivial, if_pos (by omega), if_pos (by omega), if_pos (by omega), if_pos (by show (i : Int) < ((succs next at_).length : Int); omega), if_pos (by omega), if_pos (by omega), if_pos (by omega), if_pos (by omega), if_pos hrs, wrap_succ i (by omega)]
        · have hf : out[p]? = some false := by
            cases e : out[p] with
            | true => exfalso; apply hseen; unfold mk; rw [List.getElem?_eq_getElem hpo, e]
            | false => rw [List.getElem?_eq_getElem hpo, e]
          have hu := unseen_set out p hf
          have hms : ∀ u, mk (out.set p true) u ↔ (u = p ∨ mk out u) := fun u => mk_set hpo
          have hW' : Wi next a (out.set p true) (todo ++ [(p : Int)]) := by
            refine ⟨by simp [hW.len], fun h => (hms 0).2 (.inr (hW.zero h)), ?_, ?_⟩
            · intro x hx
              rcases List.mem_append.1 hx with hx | hx
              · obtain ⟨g0, g1, g2⟩ := hW.todo x hx
                exact ⟨g0, g1, (hms _).2 (.inr g2)⟩
              · rw [List.mem_singleton] at hx
                subst hx
                exact ⟨h0, h1, (hms _).2 (.inl (Int.toNat_natCast p))⟩
            · intro v hv
              rcases (hms v).1 hv with rfl | hv
              · have := Rt.step at_ (v : Int) hra hne hym h0 h1
                rwa [Int.toNat_natCast] at this
              · exact hW.rt v hv
          obtain ⟨r, hr, hF⟩ := ihd (i + 1) (out.set p true) (todo ++ [(p : Int)]) (by omega) (by rw [List.length_append, List.length_singleton]; omega) hW' (by
            intro v hv
            rcases (hms v).1 hv with rfl | hv
            · exact .inl (List.mem_append.2 (.inr (List.mem_singleton.2 rfl)))
            · rcases hdone v hv with h | h | h
              · exact .inl (List.mem_append.2 (.inl h))
              · exact .inr (.inl h)
              · exact .inr (.inr (h.mono fun u hu => (hms u).2 (.inr hu)))) (pre' _ (fun u hu => (hms u).2 (.inr hu)) (fun _ _ => (hms _).2 (.inl (Int.toNat_natCast p))))
          refine ⟨r, first r (Ev.step (f := fun k => seedcornref26_Without.l1 k next a (out.set p true) (todo ++ [(p : Int)]) at_ ((i + 1 : Nat) : Int)) ?_ hr), hF⟩
          intro k
          simp only [seedcornref26_Without.j2]
          have hrs : ¬ rdOf false out (p : Int) = true := by
            unfold rdOf
            rw [Int.toNat_natCast, List.getD_eq_getElem?_getD, hf]
            simp
          have htl : todo.length < 17592186044416 := by omega
          rw [hrd, if_pos trivial, if_pos (by omega), if_pos (by omega), if_pos (by omega), if_pos (by show (i : Int) < ((succs next at_).length : Int); omega), if_pos (by omega), if_pos (by omega), if_pos (by omega), if_pos (by omega), if_neg hrs, if_pos htl, wrap_succ i (by omega), Int.toNat_natCast]
      · obtain ⟨r, hr, hF⟩ := ihd (i + 1) out todo (by omega) hm hW hdone (pre' out (fun _ h => h) (fun _ h => absurd h h1))
        refine ⟨r, first r (Ev.step (f := fun k => seedcornref26_Without.l1 k next a out todo at_ ((i + 1 : Nat) : Int)) ?_ hr), hF⟩
        intro k
        simp only [seedcornref26_Without.j2]
        rw [hrd, if_pos trivial, if_pos (by omega), if_pos (by omega), if_pos (by omega), if_pos (by show (i : Int) < ((succs next at_).length : Int); omega), if_pos (by omega), if_neg (by omega), wrap_succ i (by omega)]
    · obtain ⟨r, hr, hF⟩ := ihd (i + 1) out todo (by omega) hm hW hdone (pre' out (fun _ h => h) (fun h _ => absurd h h0))
      refine ⟨r, first r (Ev.step (f := fun k => seedcornref26_Without.l1 k next a out todo at_ ((i + 1 : Nat) : Int)) ?_ hr), hF⟩
      intro k
      simp only [seedcornref26_Without.j2]
      rw [hrd, if_pos trivial, if_pos (by omega), if_pos (by omega), if_pos (by omega), if_pos (by show (i : Int) < ((succs next at_).length : Int); omega), if_neg (by omega), wrap_succ i (by omega)]

open PFlowMust in
theorem wo_out (next : List (List Int)) (a : Int) (hl : ∀ b, (succs next b).length ≤ 400) (hn : next.length ≤ 100) (m : Nat) (hmb : m ≤ 100000) :
    ∀ out todo, 2 * unseen out + todo.length ≤ m → Wi next a out todo → (∀ v : Nat, mk out v → (v : Int) ∈ todo ∨ Done next a out v) → ∃ r, Ev (fun k => seedcornref26_Without.l0 k next a out todo) r ∧ Fin next a r := by
  induction m with
  | zero =>
    intro out todo hm hW hdone
    obtain rfl : todo = [] := List.eq_nil_of_length_eq_zero (by omega)
    refine ⟨out, ⟨1, ?_⟩, fin_of hW (fun v hv => (hdone v hv).resolve_left (by simp))⟩
    intro k hk
    obtain ⟨k, rfl⟩ : ∃ j, k = j + 1 := ⟨k - 1, by omega⟩
    simp only [seedcornref26_Without.l0]
    rw [if_neg (by simp)]
  | succ m ih =>
    intro out todo hm hW hdone
    cases todo with
    | nil =>
      refine ⟨out, ⟨1, ?_⟩, fin_of hW (fun v hv => (hdone v hv).resolve_left (by simp))⟩
      intro k hk
      obtain ⟨k, rfl⟩ : ∃ j, k = j + 1 := ⟨k - 1, by omega⟩
      simp only [seedcornref26_Without.l0]
      rw [if_neg (by simp)]
    | cons x todo =>
      obtain ⟨x0, x1, x2⟩ := hW.todo x List.mem_cons_self
      obtain ⟨p, rfl⟩ := Int.eq_ofNat_of_zero_le x0
      rw [Int.toNat_natCast] at x2
      simp only [List.length_cons] at hm
      have hW' : Wi next a out todo := ⟨hW.len, hW.zero, fun y hy => hW.todo y (List.mem_cons_of_mem _ hy), hW.rt⟩
      have hstep : ∀ r, Ev (fun k => seedcornref26_Without.l1 k next a out todo (p : Int) ((0 : Nat) : Int)) r → Ev (fun k => seedcornref26_Without.l0 k next a out ((p : Int) :: todo)) r := by
        intro r h
        refine Ev.step (f := fun k => seedcornref26_Without.l1 k next a out todo (p : Int) ((0 : Nat) : Int)) ?_ h
        intro k
        simp only [seedcornref26_Without.l0]
        rw [if_pos (by simp only [List.length_cons]; omega), if_pos (by simp only [List.length_cons]; omega), if_pos (by simp only [List.length_cons]; omega)]
        have e1 : ((p : Int) :: todo).drop (1 : Int).toNat = todo := rfl
        have e2 : rd ((p : Int) :: todo) 0 = (p : Int) := rfl
        rw [e1, e2]
        rfl
      by_cases hne : (p : Int) = a
      · obtain ⟨r, hr, hF⟩ := ih (by omega) out todo (by omega) hW' (by
          intro v hv
          rcases hdone v hv with h | h
          · rcases List.mem_cons.1 h with h | h
            · exact .inr (.inl (h.trans hne))
            · exact .inl h
          · exact .inr h)
        refine ⟨r, hstep r (Ev.step (f := fun k => seedcornref26_Without.j2 k next a out todo (p : Int) ((0 : Nat) : Int) false) ?_ (Ev.step (f := fun k => seedcornref26_Without.l0 k next a out todo) ?_ hr)), hF⟩
        · intro k
          simp only [seedcornref26_Without.l1]
          rw [if_pos (by omega), if_pos (by omega)]
          have e : ((p : Int) != a) = false := by simpa using hne
          rw [e]
          split <;> rfl
        · intro k
          simp only [seedcornref26_Without.j2]
          rw [if_neg (by simp)]
      · obtain ⟨r, hr, hF⟩ := wo_in next a hl m (by omega) (ih (by omega)) p (by omega) hne (hW.rt p x2) _ 0 out todo rfl (by omega) hW' (by
          intro v hv
          rcases hdone v hv with h | h
          · rcases List.mem_cons.1 h with h | h
            · exact .inr (.inl (by omega))
            · exact .inl h
          · exact .inr (.inr h)) (by intro j hj; omega)
        exact ⟨r, hstep r hr, hF⟩

open PFlowMust in
theorem without_any (next : List (List Int)) (a : Int) (hl : ∀ b, (succs next b).length ≤ 400) (hn : next.length ≤ 100) : ∃ r, Ev (fun k => seedcornref26_Without.f k next a) r ∧ Fin next a r := by
  unfold seedcornref26_Without.f
  by_cases h0 : next.length = 0
  · refine ⟨List.replicate next.length false, ⟨0, ?_⟩, ?_⟩
    · intro k _
      dsimp only
      rw [if_pos (by omega), if_pos (by omega)]
      simp only [Option.bind_some, Int.toNat_natCast]
      rw [if_pos (by omega)]
    · refine ⟨by simp, fun v => ⟨fun h => ?_, fun h => ?_⟩⟩
      · have := mk_lt h; simp at this; omega
      · have := h.lt; omega
  · have hlen : (List.replicate next.length false).length = next.length := by simp
    have hms : ∀ u, mk ((List.replicate next.length false).set 0 true) u ↔ (u = 0 ∨ mk (List.replicate next.length false) u) := fun u => mk_set (by omega)
    have hno : ∀ u, ¬ mk (List.replicate next.length false) u := by
      intro u h
      unfold mk at h
      rw [List.getElem?_replicate] at h
      split at h <;> simp at h
    have hu := unseen_set (List.replicate next.length false) 0 (by rw [List.getElem?_replicate, if_pos (by omega)])
    rw [unseen_new] at hu
    obtain ⟨r, hr, hF⟩ := wo_out next a hl hn 1000 (by omega) ((List.replicate next.length false).set 0 true) [0] (by simp only [List.length_singleton]; omega)
      ⟨by simp, fun _ => (hms 0).2 (.inl rfl), by
        intro x hx
        rw [List.mem_singleton] at hx
        subst hx
        exact ⟨Int.le_refl _, by omega, (hms _).2 (.inl rfl)⟩, by
        intro v hv
        rcases (hms v).1 hv with rfl | h
        · exact Rt.zero (by omega)
        · exact absurd h (hno v)⟩ (by
        intro v hv
        rcases (hms v).1 hv with rfl | h
        · exact .inl (by simp)
        · exact absurd h (hno v))
    refine ⟨r, Ev.congr ?_ hr, hF⟩
    intro k
    rw [if_pos (by omega), if_pos (by omega)]
    simp only [Option.bind_some, Int.toNat_natCast]
    rw [if_neg (by omega), if_pos (by rw [hlen]; omega)]
    rfl

theorem reach_mk (next : List (List Int)) (v : Nat) : mk (reachF next) v ↔ Rt next (-1) v := by
  unfold reachF
  have : ∀ (L : List Int) (s : List Bool), (∀ x ∈ L, 0 ≤ x ∧ x.toNat < s.length) → ∀ u : Nat, mk (marks s L) u ↔ (mk s u ∨ (u : Int) ∈ L) := by
    intro L
    induction L with
    | nil => intro s _ u; simp [marks]
    | cons x xs ih =>
      intro s hs u
      obtain ⟨hx0, hx1⟩ := hs x List.mem_cons_self
      have := ih (s.set x.toNat true) (fun y hy => by
        have := hs y (List.mem_cons_of_mem _ hy)
        simpa using this) u
      simp only [marks, List.foldl_cons] at this ⊢
      rw [this, mk_set hx1, List.mem_cons]
      constructor
      · rintro ((h | h) | h)
        · exact .inr (.inl (by omega))
        · exact .inl h
        · exact .inr (.inr h)
      · rintro (h | h | h)
        · exact .inl (.inr h)
        · exact .inl (.inl (by omega))
        · exact .inr h
  rw [this]
  · rw [deepF_mem]
    constructor
    · rintro (h | h)
      · exfalso
        unfold mk at h
        rw [List.getElem?_replicate] at h
        split at h <;> simp at h
      · exact h.1
    · intro h
      exact .inr ⟨h, by omega⟩
  · intro x hx
    have := deepF_range next (-1) x hx
    rw [List.length_replicate]
    omega

open Classical in
theorem mk_bool (s : List Bool) (v : Nat) (hv : v < s.length) : rdOf false s (v : Int) = decide (mk s v) := by
  unfold rdOf mk
  rw [Int.toNat_natCast, List.getD_eq_getElem?_getD, List.getElem?_eq_getElem hv]
  cases s[v] <;> simp

open Classical PFlowMust in
/-- The reference's Must is deep's. -/
theorem must_ref (next : List (List Int)) (a b : Int) (hl : ∀ b, (succs next b).length ≤ 400) (hn : next.length ≤ 100) : ∃ k, seedcornref26_Must.f k next a b = some (mustF next a b) := by
  obtain ⟨r1, ⟨K1, h1⟩, F1⟩ := without_any next (-1) hl hn
  obtain ⟨r2, ⟨K2, h2⟩, F2⟩ := without_any next a hl hn
  refine ⟨max K1 K2, ?_⟩
  have e1 := h1 (max K1 K2) (by omega)
  have e2 := h2 (max K1 K2) (by omega)
  simp only at e1 e2
  unfold seedcornref26_Must.f seedcornref26_Reach.f mustF
  rw [e1, e2]
  simp only [Option.bind_some]
  by_cases c1 : a < 0
  · rw [if_pos c1, decide_eq_false (by omega)]; rfl
  rw [if_neg c1]
  by_cases c2 : a ≥ (next.length : Int)
  · rw [if_pos c2, decide_eq_false (by omega)]; rfl
  rw [if_neg c2]
  by_cases c3 : b < 0
  · rw [if_pos c3, decide_eq_false (by omega)]; rfl
  rw [if_neg c3]
  by_cases c4 : b ≥ (next.length : Int)
  · rw [if_pos c4, decide_eq_false (by omega)]; rfl
  rw [if_neg c4, if_pos (by omega), if_pos (by rw [F1.1]; omega), decide_eq_true (by omega), Bool.true_and]
  obtain ⟨v, rfl⟩ := Int.eq_ofNat_of_zero_le (show 0 ≤ b by omega)
  have hv : v < next.length := by omega
  have hh : hit (reachF next) (v : Int) = decide (Rt next (-1) v) := by
    rw [Bool.eq_iff_iff, hit_mk, reach_mk]
    simp
  rw [mk_bool r1 v (by rw [F1.1]; exact hv), hh]
  have er : decide (mk r1 v) = decide (Rt next (-1) v) := by
    rw [Bool.eq_iff_iff]
    simp only [decide_eq_true_eq]
    exact F1.2 v
  rw [er]
  by_cases hr : Rt next (-1) v
  · rw [if_pos (by simpa using hr), decide_eq_true hr, Bool.true_and]
    by_cases c5 : a = v
    · rw [if_pos c5]
      congr 1
      symm
      rw [Bool.not_eq_true', ← Bool.not_eq_true, List.contains_iff_mem, deepF_mem]
      omega
    · rw [if_neg c5, if_pos (by rw [F2.1]; omega), mk_bool r2 v (by rw [F2.1]; exact hv)]
      congr 2
      rw [Bool.eq_iff_iff, List.contains_iff_mem, deepF_mem, decide_eq_true_eq, F2.2]
      constructor
      · intro h; exact ⟨h, fun e => c5 e.symm⟩
      · intro h; exact h.1
  · rw [if_neg (by simpa using hr), decide_eq_false hr]
    rfl
end Go.Proofs.Ytnlapancooecjaa
