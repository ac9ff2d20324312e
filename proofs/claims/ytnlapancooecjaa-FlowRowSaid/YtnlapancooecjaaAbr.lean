/- The reference's Above gives the nearest that must be gone through, as the program's. Conditions: at most 100 blocks, of at most 400 ways on each. -/
import Derived.Test.YtnlapancooecjaaAok
import Derived.Test.YtnlapancooecjaaFrc
import Derived.Test.YtnlapancooecjaaPFlowAbovex3
namespace Go.Proofs.Ytnlapancooecjaa
open Go.RowKit Go.Proofs.YtnlapancooecjaaW.PrintWords
set_option linter.unusedVariables false
set_option linter.unusedSimpArgs false

theorem wo_same (k : Nat) : (∀ a b c d, PFlowAbove.seedcornref26_Without.l0 k a b c d = PFlowMust.seedcornref26_Without.l0 k a b c d) ∧ (∀ a b c d e f, PFlowAbove.seedcornref26_Without.l1 k a b c d e f = PFlowMust.seedcornref26_Without.l1 k a b c d e f) ∧
    (∀ a b c d e f g, PFlowAbove.seedcornref26_Without.j2 k a b c d e f g = PFlowMust.seedcornref26_Without.j2 k a b c d e f g) := by
  induction k with
  | zero =>
    refine ⟨fun a b c d => ?_, fun a b c d e f => ?_, fun a b c d e f g => ?_⟩
    · rw [PFlowAbove.seedcornref26_Without.l0, PFlowMust.seedcornref26_Without.l0]
    · rw [PFlowAbove.seedcornref26_Without.l1, PFlowMust.seedcornref26_Without.l1]
    · rw [PFlowAbove.seedcornref26_Without.j2, PFlowMust.seedcornref26_Without.j2]
  | succ k ih =>
    obtain ⟨i0, i1, i2⟩ := ih
    refine ⟨fun a b c d => ?_, fun a b c d e f => ?_, fun a b c d e f g => ?_⟩
    · rw [PFlowAbove.seedcornref26_Without.l0, PFlowMust.seedcornref26_Without.l0]
      simp only [i0, i1, i2]
    · rw [PFlowAbove.seedcornref26_Without.l1, PFlowMust.seedcornref26_Without.l1]
      simp only [i0, i1, i2, show PFlowAbove.rd_L1 = PFlowMust.rd_L1 from rfl]
    · rw [PFlowAbove.seedcornref26_Without.j2, PFlowMust.seedcornref26_Without.j2]
      simp only [i0, i1, i2, show PFlowAbove.rd_L1 = PFlowMust.rd_L1 from rfl]
theorem wo_f (k : Nat) (next : List (List Int)) (a : Int) : PFlowAbove.seedcornref26_Without.f k next a = PFlowMust.seedcornref26_Without.f k next a := by
  unfold PFlowAbove.seedcornref26_Without.f PFlowMust.seedcornref26_Without.f
  simp only [(wo_same k).1]

def rowF (next : List (List Int)) (a : Nat) : List Bool := (List.range next.length).map fun b => mustF next a (b : Nat)
def tabF (next : List (List Int)) : List (List Bool) := (List.range next.length).map fun a => rowF next a
theorem tab_row (next : List (List Int)) (a : Nat) (ha : a < next.length) : PFlowAbove.rd_L3 (tabF next) (a : Nat) = rowF next a := by
  unfold PFlowAbove.rd_L3 tabF
  rw [Int.toNat_natCast, List.getD_eq_getElem?_getD, List.getElem?_map, List.getElem?_range ha]
  rfl
theorem row_at (next : List (List Int)) (a b : Nat) (hb : b < next.length) : rdOf false (rowF next a) (b : Nat) = mustF next a b := by
  unfold rdOf rowF
  rw [Int.toNat_natCast, List.getD_eq_getElem?_getD, List.getElem?_map, List.getElem?_range hb]
  rfl
theorem row_len (next : List (List Int)) (a : Nat) : (rowF next a).length = next.length := by simp [rowF]
theorem tab_len (next : List (List Int)) : (tabF next).length = next.length := by simp [tabF]

/-- What r is. -/
structure Near (next : List (List Int)) (r : List Int) : Prop where
  len : r.length = next.length
  some_ : ∀ b : Nat, b < next.length → (∃ a : Nat, a ≠ b ∧ mustF next a b = true) → ∃ u : Nat, rd r (b : Nat) = u ∧ u ≠ b ∧ mustF next u b = true ∧ ∀ a : Nat, a ≠ b → mustF next a b = true → mustF next a u = true
  none_ : ∀ b : Nat, b < next.length → (∀ a : Nat, a ≠ b → mustF next a b = false) → rd r (b : Nat) = -1

def Bst (next : List (List Int)) (b i : Nat) (best : Int) : Prop :=
  (best = -1 ∧ ∀ a : Nat, a < i → a ≠ b → mustF next a b = false) ∨ ∃ u : Nat, best = u ∧ u < i ∧ u ≠ b ∧ mustF next u b = true ∧ ∀ a : Nat, a < i → a ≠ b → mustF next a b = true → mustF next a u = true

theorem must_refl (next : List (List Int)) (a b : Nat) (h : mustF next a b = true) : mustF next a a = true := by
  rcases must_row next a a b h h with h | h <;> exact h
theorem must_lt (next : List (List Int)) (a b : Nat) (h : mustF next a b = true) : a < next.length := ((must_iff next a b).1 h).1

theorem bst_end {next : List (List Int)} {r : List Int} (hN : Near next r) {b : Nat} (hb : b < next.length) {best : Int} (h : Bst next b next.length best) : best = rd r (b : Nat) := by
  rcases h with ⟨rfl, h⟩ | ⟨u, rfl, h1, h2, h3, h4⟩
  · refine (hN.none_ b hb fun a ha => ?_).symm
    by_cases hal : a < next.length
    · exact h a hal ha
    · rcases e : mustF next a b with _ | _
      · rfl
      · exact absurd (must_lt next a b e) hal
  · obtain ⟨v, g1, g2, g3, g4⟩ := hN.some_ b hb ⟨u, h2, h3⟩
    rw [g1]
    have := must_anti next u v (g4 u h2 h3) (h4 v (must_lt next v b g3) g2 g3)
    omega

theorem bst_skip {next : List (List Int)} {b i : Nat} {best : Int} (h : Bst next b i best) (hi : i = b ∨ mustF next i b = false) : Bst next b (i + 1) best := by
  rcases h with ⟨h0, h⟩ | ⟨u, h0, h1, h2, h3, h4⟩
  · refine .inl ⟨h0, fun a ha hab => ?_⟩
    by_cases e : a = i
    · subst e
      rcases hi with hi | hi
      · exact absurd hi hab
      · exact hi
    · exact h a (by omega) hab
  · refine .inr ⟨u, h0, by omega, h2, h3, fun a ha hab hm => ?_⟩
    by_cases e : a = i
    · subst e
      rcases hi with hi | hi
      · exact absurd hi hab
      · rw [hi] at hm; cases hm
    · exact h4 a (by omega) hab hm
theorem bst_first {next : List (List Int)} {b i : Nat} {best : Int} (h : Bst next b i best) (hn : best < 0) (hib : i ≠ b) (hm : mustF next i b = true) : Bst next b (i + 1) i := by
  rcases h with ⟨h0, h⟩ | ⟨u, h0, h1, h2, h3, h4⟩
  · refine .inr ⟨i, rfl, by omega, hib, hm, fun a ha hab hma => ?_⟩
    by_cases e : a = i
    · subst e; exact must_refl next a b hm
    · have := h a (by omega) hab
      rw [this] at hma; cases hma
  · omega
theorem bst_more {next : List (List Int)} {b i u : Nat} (h : Bst next b i u) (hib : i ≠ b) (hm : mustF next i b = true) (hu : mustF next u i = true) : Bst next b (i + 1) i := by
  rcases h with ⟨h0, h⟩ | ⟨u', h0, h1, h2, h3, h4⟩
  · omega
  · have : u' = u := by omega
    subst this
    refine .inr ⟨i, rfl, by omega, hib, hm, fun a ha hab hma => ?_⟩
    by_cases e : a = i
    · subst e; exact must_refl next a b hm
    · exact must_trans next a u' i (h4 a (by omega) hab hma) hu
theorem bst_keep {next : List (List Int)} {b i u : Nat} (h : Bst next b i u) (hib : i ≠ b) (hm : mustF next i b = true) (hu : mustF next u i = false) : Bst next b (i + 1) u := by
  rcases h with ⟨h0, h⟩ | ⟨u', h0, h1, h2, h3, h4⟩
  · omega
  · have : u' = u := by omega
    subst this
    refine .inr ⟨u', rfl, by omega, h2, h3, fun a ha hab hma => ?_⟩
    by_cases e : a = i
    · subst e
      rcases must_row next u' a b h3 hm with h5 | h5
      · rw [hu] at h5; cases h5
      · exact h5
    · exact h4 a (by omega) hab hma

open PFlowAbove in
theorem ab_l3 {next : List (List Int)} {r : List Int} (hN : Near next r) (hn : next.length ≤ 100) (acc : List Int) (hacc : acc.length ≤ 100) (b : Nat) (hb : b < next.length) (hnext : Ev (fun k => seedcornref26_Above.l2 k next (tabF next) (acc ++ [rd r (b : Nat)]) ((b + 1 : Nat) : Int)) r) (d : Nat) :
    ∀ (i : Nat) (best : Int), next.length - i = d → i ≤ next.length → Bst next b i best → Ev (fun k => seedcornref26_Above.l3 k next (tabF next) acc b best i) r := by
  induction d with
  | zero =>
    intro i best hd hi hB
    have : i = next.length := by omega
    subst this
    have hbest := bst_end hN hb hB
    refine Ev.step (f := fun k => seedcornref26_Above.l2 k next (tabF next) (acc ++ [rd r (b : Nat)]) ((b + 1 : Nat) : Int)) ?_ hnext
    intro k
    rw [seedcornref26_Above.l3, if_neg (by omega), if_pos (by omega), hbest, wrap_succ b (by omega)]
  | succ d ih =>
    intro i best hd hi hB
    have hil : i < next.length := by omega
    have hu := bst_skip hB
    by_cases hib : i = b
    · refine Ev.step (f := fun k => seedcornref26_Above.l3 k next (tabF next) acc b best ((i + 1 : Nat) : Int)) ?_ (ih (i + 1) best (by omega) (by omega) (hu (.inl hib)))
      intro k
      rw [seedcornref26_Above.l3, if_pos (by omega), if_pos (by omega), wrap_succ i (by omega)]
    · have hpre : ∀ k, seedcornref26_Above.l3 (k + 1) next (tabF next) acc b best i = if mustF next i b = true then (if best < 0 then seedcornref26_Above.l3 k next (tabF next) acc b i ((i + 1 : Nat) : Int) else
          (if 0 ≤ best then (if best < ((tabF next).length : Int) then (if (i : Int) < ((rd_L3 (tabF next) best).length : Int) then (if rdOf false (rd_L3 (tabF next) best) i = true then seedcornref26_Above.l3 k next (tabF next) acc b i ((i + 1 : Nat) : Int) else seedcornref26_Above.l3 k next (tabF next) acc b best ((i + 1 : Nat) : Int)) else none) else none) else none))
          else seedcornref26_Above.l3 k next (tabF next) acc b best ((i + 1 : Nat) : Int) := by
        intro k
        rw [seedcornref26_Above.l3, if_pos (by omega), if_neg (by omega), if_pos (by omega), if_pos (by rw [tab_len]; omega), if_pos (by omega), tab_row next i hil, if_pos (by rw [row_len]; omega), row_at next i b hb, wrap_succ i (by omega)]
      rcases hm : mustF next i b with _ | _
      · refine Ev.step (f := fun k => seedcornref26_Above.l3 k next (tabF next) acc b best ((i + 1 : Nat) : Int)) ?_ (ih (i + 1) best (by omega) (by omega) (hu (.inr hm)))
        intro k
        rw [hpre, hm, if_neg (by simp)]
      · by_cases hneg : best < 0
        · refine Ev.step (f := fun k => seedcornref26_Above.l3 k next (tabF next) acc b i ((i + 1 : Nat) : Int)) ?_ (ih (i + 1) i (by omega) (by omega) (bst_first hB hneg hib hm))
          intro k
          rw [hpre, hm, if_pos rfl, if_pos hneg]
        · obtain ⟨u, rfl⟩ := Int.eq_ofNat_of_zero_le (show 0 ≤ best by omega)
          have hul : u < next.length := by
            rcases hB with ⟨h0, _⟩ | ⟨u', h0, h1, _⟩
            · omega
            · omega
          rcases hmu : mustF next u i with _ | _
          · refine Ev.step (f := fun k => seedcornref26_Above.l3 k next (tabF next) acc b u ((i + 1 : Nat) : Int)) ?_ (ih (i + 1) u (by omega) (by omega) (bst_keep hB hib hm hmu))
            intro k
            rw [hpre, hm, if_pos rfl, if_neg hneg, if_pos (by omega), if_pos (by rw [tab_len]; omega), tab_row next u hul, if_pos (by rw [row_len]; omega), row_at next u i hil, hmu, if_neg (by simp)]
          · refine Ev.step (f := fun k => seedcornref26_Above.l3 k next (tabF next) acc b i ((i + 1 : Nat) : Int)) ?_ (ih (i + 1) i (by omega) (by omega) (bst_more hB hib hm hmu))
            intro k
            rw [hpre, hm, if_pos rfl, if_neg hneg, if_pos (by omega), if_pos (by rw [tab_len]; omega), tab_row next u hul, if_pos (by rw [row_len]; omega), row_at next u i hil, hmu, if_pos rfl]

open PFlowAbove in
theorem ab_l2 {next : List (List Int)} {r : List Int} (hN : Near next r) (hn : next.length ≤ 100) (d : Nat) : ∀ b : Nat, next.length - b = d → b ≤ next.length → Ev (fun k => seedcornref26_Above.l2 k next (tabF next) (r.take b) b) r := by
  induction d with
  | zero =>
    intro b hd hb
    have : b = next.length := by omega
    subst this
    refine Ev.step (f := fun _ => some r) ?_ (Ev.now r)
    intro k
    rw [seedcornref26_Above.l2, if_neg (by omega), ← hN.len, List.take_length]
  | succ d ih =>
    intro b hd hb
    have hbl : b < next.length := by omega
    have hbr : b < r.length := by rw [hN.len]; exact hbl
    have h1 := ih (b + 1) (by omega) (by omega)
    have e : r.take (b + 1) = r.take b ++ [rd r (b : Nat)] := by
      rw [List.take_succ_eq_append_getElem hbr]
      simp [rd, List.getElem?_eq_getElem hbr]
    rw [e] at h1
    refine Ev.step (f := fun k => seedcornref26_Above.l3 k next (tabF next) (r.take b) b (-1) ((0 : Nat) : Int)) ?_ (ab_l3 hN hn (r.take b) (by rw [List.length_take]; omega) b hbl h1 _ 0 (-1) rfl (by omega) (.inl ⟨rfl, fun a ha => by omega⟩))
    intro k
    rw [seedcornref26_Above.l2, if_pos (by omega)]
    rfl

theorem hit_rd (s : List Bool) (v : Nat) : rdOf false s (v : Nat) = true ↔ mk s v := hit_mk s v
theorem must_cell {next : List (List Int)} {w : List Bool} {a i : Nat} (hF : Fin next a w) (ha : a < next.length) :
    mustF next a i = if rdOf false (reachF next) (i : Nat) = true then (if (a : Int) = (i : Nat) then true else !(rdOf false w (i : Nat))) else false := by
  have h1 := hit_rd (reachF next) i
  rw [reach_mk] at h1
  have h2 := hit_rd w i
  rw [hF.2] at h2
  rw [Bool.eq_iff_iff, must_iff]
  by_cases hr : Rt next (-1) i
  · rw [if_pos (h1.2 hr)]
    by_cases e : a = i
    · subst e
      rw [if_pos rfl]
      simp [hr, ha]
    · rw [if_neg (by omega), Bool.not_eq_true', ← Bool.not_eq_true, h2]
      constructor
      · rintro ⟨_, _, h⟩
        rcases h with h | h
        · exact absurd h.symm e
        · exact h
      · exact fun h => ⟨ha, hr, .inr h⟩
  · rw [if_neg (fun h => hr (h1.1 h))]
    simp [hr]

open PFlowAbove in
theorem ab_l1 {next : List (List Int)} {r w : List Int} {wo : List Bool} (hn : next.length ≤ 100) (T : List (List Bool)) (hT : T.length ≤ 100) (a : Nat) (ha : a < next.length) (hF : Fin next a wo) (hnext : Ev (fun k => seedcornref26_Above.l0 k next (reachF next) (T ++ [rowF next a]) ((a + 1 : Nat) : Int)) r) (d : Nat) :
    ∀ i : Nat, next.length - i = d → i ≤ next.length → Ev (fun k => seedcornref26_Above.l1 k next (reachF next) T a wo ((rowF next a).take i) i) r := by
  induction d with
  | zero =>
    intro i hd hi
    have : i = next.length := by omega
    subst this
    refine Ev.step (f := fun k => seedcornref26_Above.l0 k next (reachF next) (T ++ [rowF next a]) ((a + 1 : Nat) : Int)) ?_ hnext
    intro k
    rw [seedcornref26_Above.l1, if_neg (by omega), if_pos (by omega), wrap_succ a (by omega)]
    rw [show (rowF next a).take next.length = rowF next a from List.take_of_length_le (by rw [row_len]; exact Nat.le_refl _)]
  | succ d ih =>
    intro i hd hi
    have hil : i < next.length := by omega
    have hir : i < (rowF next a).length := by rw [row_len]; exact hil
    have h1 := ih (i + 1) (by omega) (by omega)
    have e : (rowF next a).take (i + 1) = (rowF next a).take i ++ [mustF next a i] := by
      rw [List.take_succ_eq_append_getElem hir]
      congr 2
      have := row_at next a i hil
      unfold rdOf at this
      rw [Int.toNat_natCast, List.getD_eq_getElem?_getD, List.getElem?_eq_getElem hir] at this
      simpa using this
    rw [e] at h1
    refine Ev.step (f := fun k => seedcornref26_Above.l1 k next (reachF next) T a wo ((rowF next a).take i ++ [mustF next a i]) ((i + 1 : Nat) : Int)) ?_ h1
    intro k
    have hlen : ((rowF next a).take i).length < 140737488355328 := by rw [List.length_take]; omega
    rw [seedcornref26_Above.l1, if_pos (by omega), if_pos (by omega), if_pos (by rw [reachF_len]; omega), must_cell hF ha, wrap_succ i (by omega)]
    by_cases c1 : rdOf false (reachF next) (i : Nat) = true
    · rw [if_pos c1, if_pos c1]
      by_cases c2 : (a : Int) = (i : Nat)
      · rw [if_pos c2, if_pos c2, if_pos hlen]
      · rw [if_neg c2, if_neg c2, if_pos (by rw [hF.1]; omega), if_pos hlen]
    · rw [if_neg c1, if_neg c1, if_pos hlen]

open PFlowAbove in
theorem ab_l0 {next : List (List Int)} {r : List Int} (hN : Near next r) (hn : next.length ≤ 100) (hl : ∀ b, (succs next b).length ≤ 400) (d : Nat) : ∀ a : Nat, next.length - a = d → a ≤ next.length → Ev (fun k => seedcornref26_Above.l0 k next (reachF next) ((tabF next).take a) a) r := by
  induction d with
  | zero =>
    intro a hd ha
    have : a = next.length := by omega
    subst this
    have h2 := ab_l2 hN hn _ 0 rfl (by omega)
    refine Ev.step (f := fun k => seedcornref26_Above.l2 k next (tabF next) (r.take 0) ((0 : Nat) : Int)) ?_ h2
    intro k
    rw [seedcornref26_Above.l0, if_neg (by omega)]
    rw [show (tabF next).take next.length = tabF next from List.take_of_length_le (by rw [tab_len]; exact Nat.le_refl _)]
    rfl
  | succ d ih =>
    intro a hd ha
    have hal : a < next.length := by omega
    have hat : a < (tabF next).length := by rw [tab_len]; exact hal
    have h1 := ih (a + 1) (by omega) (by omega)
    have e : (tabF next).take (a + 1) = (tabF next).take a ++ [rowF next a] := by
      rw [List.take_succ_eq_append_getElem hat]
      simp [tabF]
    rw [e] at h1
    obtain ⟨wo, hwo, hF⟩ := without_any next a hl hn
    have h2 := ab_l1 (w := []) hn ((tabF next).take a) (by rw [List.length_take]; omega) a hal hF h1 _ 0 rfl (by omega)
    refine Ev.step (f := fun k => (seedcornref26_Without.f k next a).bind fun t => seedcornref26_Above.l1 k next (reachF next) ((tabF next).take a) a t ([] : List Bool) 0) ?_ (Ev.bind (Ev.congr (fun k => wo_f k next a) hwo) h2)
    intro k
    rw [seedcornref26_Above.l0, if_pos (by omega)]

theorem reach_eq {next : List (List Int)} {r1 : List Bool} (F1 : Fin next (-1) r1) : r1 = reachF next := by
  apply List.ext_getElem?
  intro v
  by_cases hv : v < next.length
  · have a1 : mk r1 v ↔ mk (reachF next) v := by rw [F1.2, reach_mk]
    unfold mk at a1
    rw [List.getElem?_eq_getElem (by rw [F1.1]; exact hv), List.getElem?_eq_getElem (by rw [reachF_len]; exact hv)] at a1 ⊢
    simp only [Option.some.injEq] at a1 ⊢
    exact Bool.eq_iff_iff.2 a1
  · rw [List.getElem?_eq_none (by rw [F1.1]; omega), List.getElem?_eq_none (by rw [reachF_len]; omega)]

open PFlowAbove in
theorem above_ref {next : List (List Int)} {r : List Int} (hN : Near next r) (hn : next.length ≤ 100) (hl : ∀ b, (succs next b).length ≤ 400) : ∃ k, seedcornref26_Above.f k next = some r := by
  obtain ⟨r1, h1, F1⟩ := without_any next (-1) hl hn
  have := reach_eq F1
  subst this
  have h0 := ab_l0 hN hn hl _ 0 rfl (by omega)
  have hR : Ev (fun k => seedcornref26_Reach.f k next) (reachF next) := by
    unfold seedcornref26_Reach.f
    exact Ev.bind (Ev.congr (fun k => wo_f k next (-1)) h1) (Ev.now _)
  have := Ev.bind (f := fun k t => seedcornref26_Above.l0 k next t ([] : List (List Bool)) 0) hR h0
  obtain ⟨k, hk⟩ := this.rounds
  exact ⟨k, hk⟩

theorem near_ok (next : List (List Int)) (h : 0 < next.length) (r : List Int) (hr : AbDone next (placeF next.length (orderF next) (orderF next).length) (orderF next) r) : Near next r := by
  obtain ⟨hD, hO⟩ := statics next h
  have hz : ∀ a : Nat, a ≠ 0 → mustF next a 0 = false := by
    intro a ha
    rcases e : mustF next a 0 with _ | _
    · rfl
    · exfalso
      rcases ((must_iff next a 0).1 e).2.2 with h1 | h1
      · exact ha h1.symm
      · exact h1 (.zero h)
  refine ⟨hr.1.tr.len, ?_, ?_⟩
  · rintro b hb ⟨a, hab, ha⟩
    have hbR := ((must_iff next a b).1 ha).2.1
    have hb0 : b ≠ 0 := by
      rintro rfl
      have := (hz a hab).symm.trans ha
      cases this
    obtain ⟨u, h1, h2, _, _, _, h3, h4⟩ := near_some hD hr b hbR hb0
    exact ⟨u, h1, h2, h3, h4⟩
  · intro b hb hall
    by_cases hbR : Rt next (-1) b
    · by_cases hb0 : b = 0
      · exact near_none hD hr b hb (.inl hb0)
      · obtain ⟨u, h1, h2, _, _, _, h3, h4⟩ := near_some hD hr b hbR hb0
        have := hall u h2
        rw [this] at h3; cases h3
    · exact near_none hD hr b hb (.inr hbR)
end Go.Proofs.Ytnlapancooecjaa
