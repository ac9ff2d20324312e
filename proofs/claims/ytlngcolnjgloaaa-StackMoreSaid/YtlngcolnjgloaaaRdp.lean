/- The reference's Depths, as printed, answers; where it says yes the program's plain depths do. Conditions: at most 1000000 instructions. -/
import Derived.Test.YtlngcolnjgloaaaSnd
import Derived.Test.YtlngcolnjgloaaaPStackRunsx8
namespace Go.Proofs.Ytlngcolnjgloaaa
set_option linter.unusedVariables false
set_option linter.unusedSimpArgs false
open Go.RowKit Go.Proofs.YtlngcolnjgloaaaW.PrintWords PStackRuns

theorem takes_f (k : Nat) (sw : Int) (fs : List S28) (f : Int) (h0 : 0 ≤ f) (h1 : f < fs.length) (i : S25) :
    seedcornref20_Takes.f (k + 4) sw fs f i.f0 i.f1 i.f2 i.f3 = some (changeF fs (rd_T28 fs f).f3 i) := by
  unfold seedcornref20_Takes.f changeF
  simp only [seedcornref20_Takes.j0, seedcornref20_Takes.j1, seedcornref20_Takes.j2, seedcornref20_Takes.j3]
  generalize i.f0 = p
  by_cases e1 : p = 1
  · subst e1; simp
  by_cases e2 : p = 2
  · subst e2; simp
  by_cases e3 : p = 12
  · subst e3; simp
  by_cases e4 : p = 3
  · subst e4; simp
  by_cases e5 : p = 9
  · subst e5; simp
  by_cases e6 : p = 13
  · subst e6; simp
  by_cases e7 : p = 4
  · subst e7; simp
  by_cases e8 : p = 7
  · subst e8; simp
  by_cases e9 : p = 5
  · subst e9; simp
  by_cases e10 : p = 6
  · subst e10; simp
  by_cases e11 : p = 8
  · subst e11; simp
  by_cases e12 : p = 10
  · subst e12
    by_cases k1 : i.f1 < 0
    · have : ¬ (0 ≤ i.f1 ∧ i.f1 < fs.length) := by omega
      simp [k1, this]
    · by_cases k2 : i.f1 ≥ fs.length
      · have : ¬ (0 ≤ i.f1 ∧ i.f1 < fs.length) := by omega
        simp [k1, k2, this]
      · have k3 : 0 ≤ i.f1 := by omega
        have k4 : i.f1 < fs.length := by omega
        have k5 : ¬ (fs.length : Int) ≤ i.f1 := by omega
        cases hw : (rd_T28 fs i.f1).f3 <;> simp [k1, k3, k4, k5, hw, oneF]
  by_cases e13 : p = 11
  · subst e13
    cases hw : (rd_T28 fs f).f3 <;> simp [h0, h1, hw, oneF]
  simp [e1, e2, e3, e4, e5, e6, e7, e8, e9, e10, e11, e12, e13]

theorem nexts_f (i : S25) (a : Int) (h0 : 0 ≤ a) (h1 : a < 4611686018427387904) : seedcornref20_Next.f i.f0 i.f1 i.f2 i.f3 a = some (nextF i a) := by
  unfold seedcornref20_Next.f nextF
  rw [show wrap64 (a + 1) = a + 1 from IntWalk.wrap64_in _ (by omega)]
  by_cases e1 : i.f0 = 8
  · rw [if_pos e1, if_neg (by omega), if_pos e1]
  · rw [if_neg e1]
    by_cases e2 : i.f0 = 9
    · rw [if_pos e2, if_neg (by omega), if_neg e1, if_pos e2]
    · rw [if_neg e2]
      by_cases e3 : i.f0 = 11
      · rw [if_pos e3, if_pos e3]
      · rw [if_neg e3, if_neg e3, if_neg e1, if_neg e2]

theorem rd_mid (pre us : List Int) (t : Int) : rd (pre ++ t :: us) (pre.length : Int) = t := by
  unfold rd
  rw [Int.toNat_natCast, List.getD_eq_getElem?_getD, List.getElem?_append_right (Nat.le_refl _)]
  simp

theorem inn_f (k : Nat) (f : Int) (code : List S25) (d sw : Int) (fs : List S28) : ∀ (us pre o q : List Int), o.length = code.length → q.length + us.length < 17592186044416 → pre.length + us.length < 1000000 →
    seedcornref20_Depths.l2 (k + 2 * us.length + 1) f code o q d (pre ++ us) (pre.length : Int) sw fs = match innF d us o q with | none => some ([], false) | some (o', q') => seedcornref20_Depths.l1 k f code o' q' sw fs := by
  intro us
  induction us with
  | nil =>
    intro pre o q ho hq hp
    rw [show k + 2 * ([] : List Int).length + 1 = k + 1 from rfl]
    simp only [seedcornref20_Depths.l2]
    rw [if_neg (by simp)]
    rfl
  | cons t us ih =>
    intro pre o q ho hq hp
    rw [show k + 2 * (t :: us).length + 1 = ((k + 2 * us.length + 1) + 1) + 1 by simp; omega]
    simp only [List.length_cons] at hq hp
    have hw : wrap64 ((pre.length : Int) + 1) = ((pre ++ [t]).length : Int) := by
      rw [IntWalk.wrap64_in _ (by omega)]
      simp
    have hl : pre ++ t :: us = (pre ++ [t]) ++ us := by simp
    simp only [seedcornref20_Depths.l2]
    rw [rd_mid, if_pos (by simp; omega), if_pos (by omega)]
    simp only [innF]
    by_cases h0 : t < 0
    · rw [if_pos h0, if_pos (.inl h0)]
      simp [seedcornref20_Depths.j5]
    rw [if_neg h0]
    by_cases h1 : t ≥ (code.length : Int)
    · rw [if_pos h1, if_pos (.inr (by omega))]
      simp [seedcornref20_Depths.j5]
    have hno : ¬ (t < 0 ∨ (o.length : Int) ≤ t) := by omega
    rw [if_neg h1, if_pos (by omega), if_pos (by omega)]
    by_cases h2 : rd o t ≥ 0
    · rw [if_pos h2, if_neg hno, if_neg (show ¬ rd o t < 0 by omega)]
      by_cases h3 : rd o t = d
      · rw [show (rd o t != d) = false by simpa using h3, if_neg (by simpa using h3)]
        simp only [seedcornref20_Depths.j5]
        rw [if_neg (by simp), if_pos (by omega), if_pos (by omega), if_neg (by omega), hw, hl]
        exact ih (pre ++ [t]) o q ho (by omega) (by simp; omega)
      · rw [show (rd o t != d) = true by simpa using h3, if_pos h3]
        simp [seedcornref20_Depths.j5]
    · rw [if_neg h2, if_neg hno, if_pos (show rd o t < 0 by omega)]
      simp only [seedcornref20_Depths.j5]
      rw [if_neg (by simp), if_pos (by omega), if_pos (by omega), if_pos (by omega), if_pos (by omega), hw, hl]
      exact ih (pre ++ [t]) (o.set t.toNat d) (q ++ [t]) (by simpa using ho) (by simp; omega) (by simp; omega)

/-! ### the measure -/
def negs : List Int → Nat
  | [] => 0
  | x :: l => (if x < 0 then 1 else 0) + negs l
theorem negs_le (l : List Int) : negs l ≤ l.length := by
  induction l with
  | nil => exact Nat.le_refl _
  | cons x l ih => simp only [negs, List.length_cons]; split <;> omega
theorem negs_set : ∀ (l : List Int) (i : Nat) (d : Int), i < l.length → l.getD i 0 < 0 → 0 ≤ d → negs (l.set i d) + 1 = negs l := by
  intro l
  induction l with
  | nil => intro i d h; simp at h
  | cons x l ih =>
    intro i d h hx hd
    cases i with
    | zero =>
      have hx' : x < 0 := by simpa using hx
      simp only [List.set_cons_zero, negs]
      rw [if_neg (by omega), if_pos hx']
      omega
    | succ i =>
      have := ih i d (by simpa using h) (by simpa using hx) hd
      simp only [List.set_cons_succ, negs]
      omega

structure Inv (n : Nat) (o q : List Int) : Prop where
  len : o.length = n
  ent : ∀ b : Int, 0 ≤ b → b < n → rd o b + negs o < n
  que : ∀ a ∈ q, 0 ≤ a ∧ a < n
def mu (o q : List Int) : Nat := negs o + q.length

theorem innF_mu (n : Nat) (d : Int) (hd : 0 ≤ d) : ∀ (ts o q o' q' : List Int), innF d ts o q = some (o', q') → Inv n o q → d + negs o ≤ n → Inv n o' q' ∧ mu o' q' = mu o q := by
  intro ts
  induction ts with
  | nil =>
    intro o q o' q' h hI _
    simp only [innF, Option.some.injEq, Prod.mk.injEq] at h
    obtain ⟨rfl, rfl⟩ := h
    exact ⟨hI, rfl⟩
  | cons t ts ih =>
    intro o q o' q' h hI hn
    unfold innF at h
    split at h
    · cases h
    rename_i hr
    have t0 : 0 ≤ t := by omega
    have t1 : t < o.length := by omega
    split at h
    · rename_i hneg
      have hs := negs_set o t.toNat d (by omega) hneg hd
      have hI' : Inv n (o.set t.toNat d) (q ++ [t]) := by
        refine ⟨by rw [List.length_set]; exact hI.len, fun b b0 b1 => ?_, fun a ha => ?_⟩
        · rw [rd_set o t d t0 t1 b b0]
          split
          · omega
          · have := hI.ent b b0 b1; omega
        · rcases List.mem_append.1 ha with ha | ha
          · exact hI.que a ha
          · have : a = t := by simpa using ha
            subst this
            exact ⟨t0, by rw [← hI.len]; exact t1⟩
      obtain ⟨j1, j2⟩ := ih _ _ _ _ h hI' (by omega)
      exact ⟨j1, by rw [j2]; simp only [mu, List.length_append, List.length_singleton]; omega⟩
    · split at h
      · cases h
      · exact ih _ _ _ _ h hI hn

theorem next_len (i : S25) (a : Int) : (nextF i a).length ≤ 2 := by
  unfold nextF
  repeat' split
  all_goals simp

theorem dep_f (sw : Int) (fs : List S28) (f : Int) (h0 : 0 ≤ f) (h1 : f < fs.length) (n : Nat) (hn : n = (rd_T28 fs f).f4.length) (hn1 : n ≤ 1000000) :
    ∀ (m k : Nat) (o q : List Int), mu o q = m → m ≤ n → Inv n o q → 7 * m + 8 ≤ k → ∃ r b, seedcornref20_Depths.l1 k f (rd_T28 fs f).f4 o q sw fs = some (r, b) ∧ (b = true → ∃ K, outF fs (rd_T28 fs f) K o q = some (r, true)) := by
  intro m
  induction m with
  | zero =>
    intro k o q hm hmn hI hk
    obtain ⟨k, rfl⟩ : ∃ j, k = j + 1 := ⟨k - 1, by omega⟩
    have hq : q = [] := List.eq_nil_of_length_eq_zero (by unfold mu at hm; omega)
    subst hq
    refine ⟨o, true, ?_, fun _ => ⟨1, rfl⟩⟩
    simp [seedcornref20_Depths.l1]
  | succ m ih =>
    intro k o q hm hmn hI hk
    cases q with
    | nil =>
      obtain ⟨k, rfl⟩ : ∃ j, k = j + 1 := ⟨k - 1, by omega⟩
      refine ⟨o, true, ?_, fun _ => ⟨1, rfl⟩⟩
      simp [seedcornref20_Depths.l1]
    | cons a q =>
      obtain ⟨a0, a1⟩ := hI.que a (by simp)
      have hol := hI.len
      have hnl := negs_le o
      have hea := hI.ent a a0 a1
      have hts := next_len (rd_T25 (rd_T28 fs f).f4 a) a
      obtain ⟨k', hk'⟩ : ∃ j, k = ((j + 2 * (nextF (rd_T25 (rd_T28 fs f).f4 a) a).length + 1) + 1) + 1 := ⟨k - 2 * (nextF (rd_T25 (rd_T28 fs f).f4 a) a).length - 3, by omega⟩
      have hk4 : ∃ j, (k' + 2 * (nextF (rd_T25 (rd_T28 fs f).f4 a) a).length + 1) + 1 = j + 4 := ⟨(k' + 2 * (nextF (rd_T25 (rd_T28 fs f).f4 a) a).length + 1) + 1 - 4, by omega⟩
      have htk : seedcornref20_Takes.f ((k' + 2 * (nextF (rd_T25 (rd_T28 fs f).f4 a) a).length + 1) + 1) sw fs f (rd_T25 (rd_T28 fs f).f4 a).f0 (rd_T25 (rd_T28 fs f).f4 a).f1 (rd_T25 (rd_T28 fs f).f4 a).f2 (rd_T25 (rd_T28 fs f).f4 a).f3 = some (changeF fs (rd_T28 fs f).f3 (rd_T25 (rd_T28 fs f).f4 a)) := by
        obtain ⟨j, hj⟩ := hk4
        rw [hj]
        exact takes_f j sw fs f h0 h1 _
      subst hk'
      have hrd : rd (a :: q) 0 = a := rfl
      have hdrop : (a :: q).drop (1 : Int).toNat = q := rfl
      simp only [seedcornref20_Depths.l1]
      rw [if_pos (by simp), if_pos (by simp), if_pos (by simp; omega), Option.bind_some, hrd, hdrop, if_pos a0, if_pos (by omega), htk, Option.bind_some]
      have bad : ∀ j, ∃ r b, seedcornref20_Depths.j3 (j + 1) f (rd_T28 fs f).f4 o q a (changeF fs (rd_T28 fs f).f3 (rd_T25 (rd_T28 fs f).f4 a)).1 (changeF fs (rd_T28 fs f).f3 (rd_T25 (rd_T28 fs f).f4 a)).2.1 true sw fs = some (r, b) ∧ (b = true → ∃ K, outF fs (rd_T28 fs f) K o (a :: q) = some (r, true)) := fun j => ⟨[], false, by simp [seedcornref20_Depths.j3], fun h => by cases h⟩
      by_cases c0 : ¬ (changeF fs (rd_T28 fs f).f3 (rd_T25 (rd_T28 fs f).f4 a)).2.2 = true
      · rw [if_neg c0]; exact bad _
      have c1 : (changeF fs (rd_T28 fs f).f3 (rd_T25 (rd_T28 fs f).f4 a)).2.2 = true := Decidable.not_not.1 c0
      rw [if_pos c1]
      by_cases c2 : (changeF fs (rd_T28 fs f).f3 (rd_T25 (rd_T28 fs f).f4 a)).1 < 0
      · rw [if_pos c2]; exact bad _
      rw [if_neg c2, if_pos (by omega)]
      by_cases c3 : rd o a < (changeF fs (rd_T28 fs f).f3 (rd_T25 (rd_T28 fs f).f4 a)).1
      · rw [if_pos c3]; exact bad _
      rw [if_neg c3]
      -- past the tests
      have past : ((rd_T25 (rd_T28 fs f).f4 a).f0 = 11 → rd o a = (changeF fs (rd_T28 fs f).f3 (rd_T25 (rd_T28 fs f).f4 a)).1) →
          ∃ r b, seedcornref20_Depths.j3 ((k' + 2 * (nextF (rd_T25 (rd_T28 fs f).f4 a) a).length + 1) + 1) f (rd_T28 fs f).f4 o q a (changeF fs (rd_T28 fs f).f3 (rd_T25 (rd_T28 fs f).f4 a)).1 (changeF fs (rd_T28 fs f).f3 (rd_T25 (rd_T28 fs f).f4 a)).2.1 false sw fs = some (r, b) ∧ (b = true → ∃ K, outF fs (rd_T28 fs f) K o (a :: q) = some (r, true)) := by
        intro h11
        have hon := change_on fs (rd_T28 fs f).f3 (rd_T25 (rd_T28 fs f).f4 a)
        have hon0 := hon.1
        have hon1 := hon.2
        have hmq : mu o q = m := by unfold mu at hm ⊢; simp only [List.length_cons] at hm; omega
        have hql : q.length ≤ m := by unfold mu at hmq; omega
        have hw : wrap64 (wrap64 (rd o a - (changeF fs (rd_T28 fs f).f3 (rd_T25 (rd_T28 fs f).f4 a)).1) + (changeF fs (rd_T28 fs f).f3 (rd_T25 (rd_T28 fs f).f4 a)).2.1) = rd o a - (changeF fs (rd_T28 fs f).f3 (rd_T25 (rd_T28 fs f).f4 a)).1 + (changeF fs (rd_T28 fs f).f3 (rd_T25 (rd_T28 fs f).f4 a)).2.1 := by
          rw [show wrap64 (rd o a - (changeF fs (rd_T28 fs f).f3 (rd_T25 (rd_T28 fs f).f4 a)).1) = rd o a - (changeF fs (rd_T28 fs f).f3 (rd_T25 (rd_T28 fs f).f4 a)).1 from IntWalk.wrap64_in _ (by omega), IntWalk.wrap64_in _ (by omega)]
        have hI' : Inv n o q := ⟨hI.len, hI.ent, fun b hb => hI.que b (by simp [hb])⟩
        simp only [seedcornref20_Depths.j3]
        rw [if_neg (by simp), if_pos a0, if_pos (by omega), if_pos (by omega), nexts_f _ _ a0 (by omega), Option.bind_some, hw]
        have hin := inn_f k' f (rd_T28 fs f).f4 (rd o a - (changeF fs (rd_T28 fs f).f3 (rd_T25 (rd_T28 fs f).f4 a)).1 + (changeF fs (rd_T28 fs f).f3 (rd_T25 (rd_T28 fs f).f4 a)).2.1) sw fs (nextF (rd_T25 (rd_T28 fs f).f4 a) a) [] o q (by omega) (by omega) (by simp; omega)
        rw [List.nil_append] at hin
        rw [show ((([] : List Int).length : Nat) : Int) = 0 from rfl] at hin
        rw [hin]
        cases hinn : innF (rd o a - (changeF fs (rd_T28 fs f).f3 (rd_T25 (rd_T28 fs f).f4 a)).1 + (changeF fs (rd_T28 fs f).f3 (rd_T25 (rd_T28 fs f).f4 a)).2.1) (nextF (rd_T25 (rd_T28 fs f).f4 a) a) o q with
        | none => exact ⟨[], false, rfl, fun h => by cases h⟩
        | some p =>
          obtain ⟨o', q'⟩ := p
          obtain ⟨j1, j2⟩ := innF_mu n _ (by omega) _ _ _ _ _ hinn hI' (by omega)
          obtain ⟨r, b, hr, hb⟩ := ih k' o' q' (by rw [j2, hmq]) (by omega) j1 (by omega)
          refine ⟨r, b, hr, fun h => ?_⟩
          obtain ⟨K, hK⟩ := hb h
          refine ⟨K + 1, ?_⟩
          simp only [outF]
          rw [if_pos ⟨a0, by omega, by omega⟩, if_pos ⟨⟨by omega, by omega⟩, ⟨by omega, by omega⟩⟩, if_neg, hinn]
          · exact hK
          · intro hbad
            rcases hbad with h | h | h | h
            · rw [c1] at h; cases h
            · omega
            · omega
            · have := h11 h.1
              omega
      by_cases c4 : (rd_T25 (rd_T28 fs f).f4 a).f0 = 11
      · rw [if_pos c4]
        by_cases c5 : rd o a = (changeF fs (rd_T28 fs f).f3 (rd_T25 (rd_T28 fs f).f4 a)).1
        · rw [show (rd o a != (changeF fs (rd_T28 fs f).f3 (rd_T25 (rd_T28 fs f).f4 a)).1) = false by simpa using c5]
          exact past (fun _ => c5)
        · rw [show (rd o a != (changeF fs (rd_T28 fs f).f3 (rd_T25 (rd_T28 fs f).f4 a)).1) = true by simpa using c5]
          exact bad _
      · rw [if_neg c4]
        exact past (fun h => absurd h c4)

theorem negs_rep (m : Nat) : negs (List.replicate m (-1)) = m := by
  induction m with
  | zero => rfl
  | succ m ih => rw [List.replicate_succ]; simp only [negs, ih]; rw [if_pos (by decide)]; omega

theorem fill_f (f : Int) (code : List S25) (sw : Int) (fs : List S28) (n : Nat) (hn : n ≤ 1000000) (hn0 : 0 < n) : ∀ (m j k : Nat), j + m = n →
    seedcornref20_Depths.l0 (k + m + 1) f code (List.replicate j (-1) ++ List.replicate m 0) (j : Int) sw fs = seedcornref20_Depths.l1 k f code ((List.replicate n (-1)).set 0 0) [0] sw fs := by
  intro m
  induction m with
  | zero =>
    intro j k hj
    obtain rfl : j = n := by omega
    rw [show k + 0 + 1 = k + 1 from rfl]
    simp only [seedcornref20_Depths.l0]
    rw [List.replicate_zero, List.append_nil, List.length_replicate, if_neg (by omega), if_pos (by omega)]
    rfl
  | succ m ih =>
    intro j k hj
    rw [show k + (m + 1) + 1 = (k + m + 1) + 1 by omega]
    simp only [seedcornref20_Depths.l0]
    rw [if_pos (by rw [List.length_append, List.length_replicate, List.length_replicate]; omega), if_pos (by omega)]
    rw [show wrap64 ((j : Int) + 1) = ((j + 1 : Nat) : Int) by rw [IntWalk.wrap64_in _ (by omega)]; omega]
    have e : (List.replicate j (-1 : Int) ++ List.replicate (m + 1) 0).set (j : Int).toNat (-1) = List.replicate (j + 1) (-1) ++ List.replicate m 0 := by
      rw [Int.toNat_natCast, List.set_append_right _ _ (by simp), List.length_replicate, Nat.sub_self, List.replicate_succ (n := m), List.set_cons_zero, List.replicate_succ' (n := j), List.append_assoc]
      rfl
    rw [e]
    exact ih (j + 1) k (by omega)

theorem rdep_f (sw : Int) (fs : List S28) (f : Int) (h0 : 0 ≤ f) (h1 : f < fs.length) (hn : (rd_T28 fs f).f4.length ≤ 1000000) :
    ∃ k r b, seedcornref20_Depths.f k sw fs f = some (r, b) ∧ (b = true → ∃ K, depthsF fs f K = some (r, true)) := by
  obtain ⟨n, hnn⟩ : ∃ n, n = (rd_T28 fs f).f4.length := ⟨_, rfl⟩
  by_cases hz : n = 0
  · refine ⟨1, [], false, ?_, fun h => by cases h⟩
    unfold seedcornref20_Depths.f
    rw [if_neg (by omega), if_neg (by omega), if_pos h0, if_pos h1]
    rw [show ((((rd_T28 fs f).f4.length : Nat) : Int) == 0) = true by rw [← hnn, hz]; rfl]
    simp [seedcornref20_Depths.j0]
  · have hI : Inv n ((List.replicate n (-1)).set 0 0) [0] := by
      have hneg := negs_set (List.replicate n (-1)) 0 0 (by simp; omega) (by rw [List.getD_eq_getElem?_getD, List.getElem?_replicate, if_pos (by omega)]; decide) (by omega)
      rw [negs_rep] at hneg
      refine ⟨by simp, fun b b0 b1 => ?_, fun a ha => (by have e : a = 0 := (by simpa using ha); rw [e]; exact ⟨by omega, by omega⟩)⟩
      have := rd_set (List.replicate n (-1)) 0 0 (by omega) (by rw [List.length_replicate]; omega) b b0
      rw [show (0 : Int).toNat = 0 from rfl] at this
      rw [this]
      split
      · omega
      · unfold rd
        rw [List.getD_eq_getElem?_getD, List.getElem?_replicate, if_pos (by omega)]
        show (-1 : Int) + _ < _
        omega
    have hmu : mu ((List.replicate n (-1)).set 0 0) [0] = n := by
      have hneg := negs_set (List.replicate n (-1)) 0 0 (by simp; omega) (by rw [List.getD_eq_getElem?_getD, List.getElem?_replicate, if_pos (by omega)]; decide) (by omega)
      rw [negs_rep] at hneg
      unfold mu
      simp
      omega
    obtain ⟨r, b, hr, hb⟩ := dep_f sw fs f h0 h1 n hnn (by omega) n (7 * n + 8) _ _ hmu (Nat.le_refl _) hI (Nat.le_refl _)
    refine ⟨((7 * n + 8) + n + 1) + 1, r, b, ?_, fun h => ?_⟩
    · unfold seedcornref20_Depths.f
      rw [if_neg (by omega), if_neg (by omega), if_pos h0, if_pos h1]
      rw [show ((((rd_T28 fs f).f4.length : Nat) : Int) == 0) = false by rw [← hnn]; simpa using hz]
      simp only [seedcornref20_Depths.j0]
      rw [if_neg (by simp), if_pos h0, if_pos h1, if_pos (by omega), if_pos (by rw [← hnn]; omega)]
      have := fill_f f (rd_T28 fs f).f4 sw fs n (by omega) (by omega) n 0 (7 * n + 8) (by omega)
      rw [List.replicate_zero, List.nil_append] at this
      rw [← hnn, Int.toNat_natCast]
      rw [show ((0 : Nat) : Int) = 0 from rfl] at this
      rw [this]
      exact hr
    · obtain ⟨K, hK⟩ := hb h
      refine ⟨K, ?_⟩
      unfold depthsF
      rw [if_pos ⟨h0, h1⟩, if_pos ⟨by omega, by omega⟩, ← hnn]
      exact hK
end Go.Proofs.Ytlngcolnjgloaaa
