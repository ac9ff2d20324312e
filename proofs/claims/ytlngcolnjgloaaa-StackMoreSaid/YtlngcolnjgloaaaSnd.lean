/- A program that may be runs: its steps are never stuck. Conditions: it may be, its numbers are words. -/
import Derived.Test.YtlngcolnjgloaaaOpp
namespace Go.Proofs.Ytlngcolnjgloaaa
set_option linter.unusedVariables false
set_option linter.unusedSimpArgs false
open Go.RowKit Go.Proofs.YtlngcolnjgloaaaW.PrintWords PStackRuns

/-! ### Depths -/
def StepOk (fs : List S28) (x : S28) (o : List Int) (a : Int) : Prop :=
  (changeF fs x.f3 (rd_T25 x.f4 a)).2.2 = true ∧ 0 ≤ (changeF fs x.f3 (rd_T25 x.f4 a)).1 ∧ (changeF fs x.f3 (rd_T25 x.f4 a)).1 ≤ rd o a ∧ ((rd_T25 x.f4 a).f0 = 11 → rd o a = (changeF fs x.f3 (rd_T25 x.f4 a)).1) ∧
  ∀ t ∈ nextF (rd_T25 x.f4 a) a, 0 ≤ t ∧ t < o.length ∧ rd o t = rd o a - (changeF fs x.f3 (rd_T25 x.f4 a)).1 + (changeF fs x.f3 (rd_T25 x.f4 a)).2.1

def Deep (fs : List S28) (x : S28) (o : List Int) : Prop := o.length = x.f4.length ∧ 0 < x.f4.length ∧ rd o 0 = 0 ∧ ∀ a : Int, 0 ≤ a → a < o.length → 0 ≤ rd o a → StepOk fs x o a

theorem rd_set (o : List Int) (t : Int) (d : Int) (h0 : 0 ≤ t) (h1 : t < o.length) (b : Int) (hb : 0 ≤ b) : rd (o.set t.toNat d) b = if b = t then d else rd o b := by
  unfold rd
  rw [List.getD_eq_getElem?_getD, List.getElem?_set, List.getD_eq_getElem?_getD]
  by_cases e : b = t
  · subst e
    rw [if_pos rfl, if_pos rfl, if_pos (by omega)]
    rfl
  · rw [if_neg (by omega), if_neg e]

theorem innF_spec (d : Int) (hd : 0 ≤ d) : ∀ (ts o q o' q' : List Int), innF d ts o q = some (o', q') →
    o'.length = o.length ∧ (∀ b, 0 ≤ b → 0 ≤ rd o b → rd o' b = rd o b) ∧ (∀ t ∈ ts, 0 ≤ t ∧ t < o.length ∧ rd o' t = d) ∧ (∀ b, 0 ≤ b → 0 ≤ rd o' b → 0 ≤ rd o b ∨ b ∈ q') ∧ (∀ b ∈ q, b ∈ q') := by
  intro ts
  induction ts with
  | nil =>
    intro o q o' q' h
    simp only [innF, Option.some.injEq, Prod.mk.injEq] at h
    obtain ⟨rfl, rfl⟩ := h
    exact ⟨rfl, fun _ _ _ => rfl, fun t ht => absurd ht (by simp), fun b _ hb => .inl hb, fun _ hb => hb⟩
  | cons t ts ih =>
    intro o q o' q' h
    unfold innF at h
    split at h
    · cases h
    rename_i hr
    have t0 : 0 ≤ t := by omega
    have t1 : t < o.length := by omega
    split at h
    · rename_i hn
      obtain ⟨i1, i2, i3, i4, i5⟩ := ih _ _ _ _ h
      have hs := rd_set o t d t0 t1
      refine ⟨by rw [i1, List.length_set], fun b hb hb0 => ?_, fun u hu => ?_, fun b hb hb0 => ?_, fun b hb => i5 b (by simp [hb])⟩
      · have hbt : b ≠ t := by rintro rfl; omega
        have h1 := hs b hb
        rw [if_neg hbt] at h1
        rw [i2 b hb (by rw [h1]; exact hb0), h1]
      · rcases List.mem_cons.1 hu with rfl | hu
        · refine ⟨t0, t1, ?_⟩
          have h1 := hs u t0
          rw [if_pos rfl] at h1
          rw [i2 u t0 (by rw [h1]; exact hd), h1]
        · obtain ⟨j0, j1, j2⟩ := i3 u hu
          rw [List.length_set] at j1
          exact ⟨j0, j1, j2⟩
      · rcases i4 b hb hb0 with h1 | h1
        · by_cases e : b = t
          · right; subst e; exact i5 b (by simp)
          · have h2 := hs b hb
            rw [if_neg e] at h2
            left; rw [← h2]; exact h1
        · exact .inr h1
    · split at h
      · cases h
      · rename_i hn he
        obtain ⟨i1, i2, i3, i4, i5⟩ := ih _ _ _ _ h
        have he' : rd o t = d := by simpa using he
        refine ⟨i1, i2, fun u hu => ?_, i4, i5⟩
        rcases List.mem_cons.1 hu with rfl | hu
        · exact ⟨t0, t1, by rw [i2 u t0 (by omega)]; exact he'⟩
        · exact i3 u hu

theorem on_ok (fs : List S28) (wd : Bool) (i : S25) : 0 ≤ (changeF fs wd i).2.1 := (change_on fs wd i).1

theorem outF_deep (fs : List S28) (x : S28) : ∀ (k : Nat) (o q r : List Int), outF fs x k o q = some (r, true) → rd o 0 = 0 → (∀ a : Int, 0 ≤ a → a < o.length → 0 ≤ rd o a → a ∈ q ∨ StepOk fs x o a) →
    r.length = o.length ∧ rd r 0 = 0 ∧ ∀ a : Int, 0 ≤ a → a < r.length → 0 ≤ rd r a → StepOk fs x r a := by
  intro k
  induction k with
  | zero => intro o q r h; cases h
  | succ k ih =>
    intro o q r h h0 hI
    cases q with
    | nil =>
      simp only [outF, Option.some.injEq, Prod.mk.injEq] at h
      obtain ⟨rfl, _⟩ := h
      exact ⟨rfl, h0, fun a a0 a1 ha => (hI a a0 a1 ha).resolve_left (by simp)⟩
    | cons a q =>
      unfold outF at h
      split at h
      · rename_i hr
        split at h
        · split at h
          · simp at h
          · rename_i hc
            simp only [not_or, not_and, Bool.not_eq_false, Int.not_lt, Decidable.not_not] at hc
            obtain ⟨c1, c2, c3, c4⟩ := hc
            split at h
            · simp at h
            · rename_i o' q' hin
              have hon := on_ok fs x.f3 (rd_T25 x.f4 a)
              obtain ⟨i1, i2, i3, i4, i5⟩ := innF_spec _ (by omega) _ _ _ _ _ hin
              have ha0 : 0 ≤ rd o a := by omega
              have keep : ∀ b : Int, 0 ≤ b → 0 ≤ rd o b → StepOk fs x o b → StepOk fs x o' b := by
                intro b b0 hb ⟨s1, s2, s3, s4, s5⟩
                have e := i2 b b0 hb
                refine ⟨s1, s2, by rw [e]; exact s3, fun h11 => by rw [e]; exact s4 h11, fun t ht => ?_⟩
                obtain ⟨t0, t1, t2⟩ := s5 t ht
                have hon' := on_ok fs x.f3 (rd_T25 x.f4 b)
                exact ⟨t0, by rw [i1]; exact t1, by rw [i2 t t0 (by omega), e]; exact t2⟩
              obtain ⟨j1, j2, j3⟩ := ih o' q' r h (by rw [i2 0 (by omega) (by omega)]; exact h0) (fun b b0 b1 hb => by
                rcases i4 b b0 hb with hb' | hb'
                · rcases hI b b0 (by rw [← i1]; exact b1) hb' with hq | hs
                  · rcases List.mem_cons.1 hq with rfl | hq
                    · right
                      have e := i2 b b0 hb'
                      refine ⟨c1, c2, by rw [e]; omega, fun h11 => by rw [e]; have := c4 h11; omega, fun t ht => ?_⟩
                      obtain ⟨t0, t1, t2⟩ := i3 t ht
                      exact ⟨t0, by rw [i1]; exact t1, by rw [e]; exact t2⟩
                    · exact .inl (i5 b hq)
                  · exact .inr (keep b b0 hb' hs)
                · exact .inl hb')
              exact ⟨by rw [j1, i1], j2, j3⟩
        · cases h
      · cases h

theorem deep_of {fs : List S28} {f : Int} {K : Nat} {r : List Int} (h : depthsF fs f K = some (r, true)) : Deep fs (rd_T28 fs f) r := by
  unfold depthsF at h
  split at h
  · split at h
    · rename_i hf hl
      have e0 : rd ((List.replicate (rd_T28 fs f).f4.length (-1)).set 0 0) 0 = 0 := by
        have := rd_set (List.replicate (rd_T28 fs f).f4.length (-1)) 0 0 (by omega) (by rw [List.length_replicate]; omega) 0 (by omega)
        rw [if_pos rfl] at this
        exact this
      obtain ⟨h1, h2, h3⟩ := outF_deep _ _ _ _ _ _ h e0 (fun a a0 a1 ha => by
        have := rd_set (List.replicate (rd_T28 fs f).f4.length (-1)) 0 0 (by omega) (by rw [List.length_replicate]; omega) a a0
        rw [show (0 : Int).toNat = 0 from rfl] at this
        by_cases e : a = 0
        · left; simp [e]
        · rw [this, if_neg e] at ha
          exfalso
          unfold rd at ha
          rw [List.length_set, List.length_replicate] at a1
          rw [List.getD_eq_getElem?_getD, List.getElem?_replicate, if_pos (by omega)] at ha
          simp at ha)
      rw [List.length_set, List.length_replicate] at h1
      exact ⟨h1, hl.1, h2, h3⟩
    · cases h
  · cases h
end Go.Proofs.Ytlngcolnjgloaaa

/- A program that may be runs to an end, or out of fuel, on any input; more fuel goes on. Conditions: it may be, its numbers are words. -/
namespace Go.Proofs.Ytlngcolnjgloaaa
set_option linter.unusedVariables false
set_option linter.unusedSimpArgs false
open Go.RowKit Go.Proofs.YtlngcolnjgloaaaW.PrintWords PStackRuns

def FrOk (fs : List S28) (p : Int) (x : Fr) : Prop :=
  (∃ i : Nat, i < fs.length ∧ x.f = rd_T28 fs i) ∧ (∃ o, Deep fs x.f o ∧ 0 ≤ x.at_ ∧ x.at_ < x.f.f4.length ∧ rd o x.at_ = x.l.length + p) ∧ ∀ u ∈ x.l, word u
def Chain (fs : List S28) : Int → List Fr → Prop
  | _, [] => True
  | p, x :: xs => FrOk fs p x ∧ Chain fs (oneF x.f.f3) xs
structure Good (fs : List S28) (sw : Nat) (m : Mc) : Prop where
  wl : m.words.length = sw
  ww : ∀ u ∈ m.words, word u
  ch : Chain fs 0 m.calls
  ne : m.calls ≠ []

/-- A program that may be, of words. -/
structure Prg (sw : Nat) (fs : List S28) : Prop where
  right : rightP sw fs
  nums : ∀ i : Nat, i < fs.length → ∀ x ∈ (rd_T28 fs i).f4, word x.f3

theorem code_mem {l : List S25} {a : Int} (h0 : 0 ≤ a) (h1 : a < l.length) : rd_T25 l a ∈ l := by
  have hl : a.toNat < l.length := by omega
  have : rd_T25 l a = l[a.toNat] := by simp [rd_T25, rdOf, List.getD_eq_getElem?_getD, hl]
  rw [this]
  exact List.getElem_mem hl

theorem rd_mem {l : List Int} {a : Int} (h0 : 0 ≤ a) (h1 : a < l.length) : rd l a ∈ l := by
  have hl : a.toNat < l.length := by omega
  have : rd l a = l[a.toNat] := by simp [rd, List.getD_eq_getElem?_getD, hl]
  rw [this]
  exact List.getElem_mem hl

theorem splice_words {ws l : List Int} {n : Nat} (h1 : ∀ u ∈ ws, word u) (h2 : ∀ u ∈ l, word u) : ∀ u ∈ splice ws n l, word u := by
  intro u hu
  unfold splice at hu
  rcases List.mem_append.1 hu with hu | hu
  · exact h1 u (List.mem_of_mem_take hu)
  · rcases List.mem_append.1 hu with hu | hu
    · exact h2 u hu
    · exact h1 u (List.mem_of_mem_drop hu)

theorem bt_word (s : ByteArray) (i : Int) : word (bt s i) := by
  have := bt_range s i
  exact ⟨this.1, by omega⟩

/-- What a step leaves: it never is stuck; it ends, or goes on well. -/
theorem step_good {sw : Nat} {fs : List S28} (hP : Prg sw fs) {m : Mc} (hG : Good fs sw m) (he : m.end_ = 0) :
    ∃ m', stepF fs m = some m' ∧ (m'.end_ = 0 → Good fs sw m') ∧ m'.end_ ≠ 5 ∧ (∃ s, m'.out = m.out ++ s) ∧ m'.words.length = sw := by
  obtain ⟨words, inp, out, calls, end_⟩ := m
  obtain ⟨wl, ww, ch, ne⟩ := hG
  dsimp only at wl ww ch ne he ⊢
  subst he
  cases calls with
  | nil => exact absurd rfl ne
  | cons x xs =>
    obtain ⟨⟨⟨i, hi, hxf⟩, ⟨o, hD, ha0, ha1, hd⟩, hw⟩, hch⟩ := ch
    obtain ⟨hol, _, ho0, hst⟩ := hD
    have hfun := hP.right.2.2.2.2.1 i hi
    obtain ⟨_, _, _, _, _, hfit, _⟩ := hfun
    have hins := code_mem ha0 ha1
    have hfi : fitP sw fs i (rd_T25 x.f.f4 x.at_) := hfit _ (by rw [← hxf]; exact hins)
    have hnw : word (rd_T25 x.f.f4 x.at_).f3 := hP.nums i hi _ (by rw [← hxf]; exact hins)
    obtain ⟨s1, s2, s3, s4, s5⟩ := hst x.at_ ha0 (by rw [hol]; exact ha1) (by omega)
    have hon := on_ok fs x.f.f3 (rd_T25 x.f.f4 x.at_)
    generalize hins' : rd_T25 x.f.f4 x.at_ = ins at *
    obtain ⟨op, A, B, N⟩ := ins
    have hstep : stepF fs ⟨words, inp, out, x :: xs, 0⟩ = doF fs ⟨op, A, B, N⟩ ⟨words, inp, out, { x with at_ := x.at_ + 1 } :: xs, 0⟩ := by
      show (if 0 ≤ x.at_ ∧ x.at_ < x.f.f4.length then doF fs (rd_T25 x.f.f4 x.at_) _ else none) = _
      rw [if_pos ⟨ha0, ha1⟩, hins']
    rw [hstep]
    clear hstep hins
    -- the next frame of the same call
    have top : ∀ (t : Int) (l : List Int), t ∈ nextF ⟨op, A, B, N⟩ x.at_ → (l.length : Int) = rd o x.at_ - (changeF fs x.f.f3 ⟨op, A, B, N⟩).1 + (changeF fs x.f.f3 ⟨op, A, B, N⟩).2.1 → (∀ u ∈ l, word u) → Chain fs 0 ({ x with l := l, at_ := t } :: xs) := by
      intro t l ht hl hlw
      obtain ⟨t0, t1, t2⟩ := s5 t ht
      refine ⟨⟨⟨i, hi, hxf⟩, ⟨o, ⟨hol, by omega, ho0, hst⟩, t0, by rw [← hol]; exact t1, ?_⟩, hlw⟩, hch⟩
      show rd o t = (l.length : Int) + 0
      rw [t2]; omega
    have nx : ¬ op = 11 → ¬ op = 8 → x.at_ + 1 ∈ nextF ⟨op, A, B, N⟩ x.at_ := by
      intro n1 n2
      unfold nextF
      rw [if_neg n1, if_neg n2]
      split <;> simp
    have hlen : (x.l.length : Int) = rd o x.at_ := by omega
    have wtail : ∀ u l, x.l = u :: l → word u ∧ ∀ v ∈ l, word v := fun u l e => ⟨hw u (by rw [e]; simp), fun v hv => hw v (by rw [e]; simp [hv])⟩
    have ap : (∃ s, out = out ++ s) := ⟨[], by simp⟩
    unfold fitP at hfi
    simp only at hfi hnw
    by_cases h1 : op = 1
    · subst h1
      refine ⟨_, rfl, fun _ => ⟨wl, ww, top _ _ (nx (by decide) (by decide)) ?_ ?_, by simp⟩, by simp, ap, wl⟩
      · simp [changeF]; omega
      · intro u hu
        rcases List.mem_cons.1 hu with rfl | hu
        · exact hnw
        · exact hw u hu
    rw [if_neg h1] at hfi
    by_cases h2 : op = 2
    · subst h2
      simp only [true_or, if_true] at hfi
      obtain ⟨_, _, f0, f1⟩ := hfi
      have hc : 0 ≤ A ∧ A < (words.length : Int) := ⟨f0, by omega⟩
      refine ⟨⟨words, inp, out, { x with l := rd words A :: x.l, at_ := x.at_ + 1 } :: xs, 0⟩, by simp [doF, hc], fun _ => ⟨wl, ww, top _ _ (nx (by decide) (by decide)) ?_ ?_, by simp⟩, by simp, ap, wl⟩
      · simp [changeF]; omega
      · intro u hu
        rcases List.mem_cons.1 hu with rfl | hu
        · exact ww _ (rd_mem hc.1 hc.2)
        · exact hw u hu
    by_cases h3 : op = 3
    · subst h3
      simp only [or_true, if_true] at hfi
      obtain ⟨_, _, f0, f1⟩ := hfi
      have hc : 0 ≤ A ∧ A < (words.length : Int) := ⟨f0, by omega⟩
      simp [changeF] at s3
      cases hl : x.l with
      | nil => rw [hl] at hlen; simp at hlen; omega
      | cons u l =>
        obtain ⟨hu, hl'⟩ := wtail u l hl
        refine ⟨⟨words.set A.toNat u, inp, out, { x with l := l, at_ := x.at_ + 1 } :: xs, 0⟩, by simp [doF, hl, hc], fun _ => ⟨by simpa using wl, ?_, top _ _ (nx (by decide) (by decide)) ?_ hl', by simp⟩, by simp, ap, by simpa using wl⟩
        · intro v hv
          rcases List.mem_or_eq_of_mem_set hv with hv | rfl
          · exact ww v hv
          · exact hu
        · rw [hl] at hlen; simp [changeF] at hlen ⊢; omega
    rw [if_neg (by omega)] at hfi
    by_cases h4 : op = 4
    · subst h4
      simp only [true_or, if_true] at hfi
      obtain ⟨_, f0, f1, f2, f3⟩ := hfi
      simp [changeF] at s3
      cases hl : x.l with
      | nil => rw [hl] at hlen; simp at hlen; omega
      | cons u l =>
        obtain ⟨hu, hl'⟩ := wtail u l hl
        have hc : word u ∧ 0 ≤ A ∧ 0 ≤ B ∧ B ≤ 4096 := ⟨hu, f0, by omega, f2⟩
        by_cases hin : u < B
        · have hb : A + u < (words.length : Int) := by omega
          refine ⟨⟨words, inp, out, { x with l := rd words (A + u) :: l, at_ := x.at_ + 1 } :: xs, 0⟩, by simp [doF, hl, hc, hin, hb], fun _ => ⟨wl, ww, top _ _ (nx (by decide) (by decide)) ?_ ?_, by simp⟩, by simp, ap, wl⟩
          · rw [hl] at hlen; simp [changeF] at hlen ⊢; omega
          · intro v hv
            rcases List.mem_cons.1 hv with rfl | hv
            · exact ww _ (rd_mem (by have := hu.1; omega) hb)
            · exact hl' v hv
        · exact ⟨⟨words, inp, out, { x with l := l, at_ := x.at_ + 1 } :: xs, 3⟩, by simp [doF, hl, hc, hin], fun h => by simp at h, by simp, ap, wl⟩
    by_cases h5 : op = 5
    · subst h5
      simp only [or_true, if_true] at hfi
      obtain ⟨_, f0, f1, f2, f3⟩ := hfi
      simp [changeF] at s3
      cases hl : x.l with
      | nil => rw [hl] at hlen; simp at hlen; omega
      | cons v l0 =>
        cases l0 with
        | nil => rw [hl] at hlen; simp at hlen; omega
        | cons u l =>
          obtain ⟨hv, hl'⟩ := wtail v (u :: l) hl
          have hu := hl' u (by simp)
          have hc : word u ∧ 0 ≤ A ∧ 0 ≤ B ∧ B ≤ 4096 := ⟨hu, f0, by omega, f2⟩
          by_cases hin : u < B
          · have hb : A + u < (words.length : Int) := by omega
            refine ⟨⟨words.set (A + u).toNat v, inp, out, { x with l := l, at_ := x.at_ + 1 } :: xs, 0⟩, by simp [doF, hl, hc, hin, hb], fun _ => ⟨by simpa using wl, ?_, top _ _ (nx (by decide) (by decide)) ?_ (fun w hw' => hl' w (by simp [hw'])), by simp⟩, by simp, ap, by simpa using wl⟩
            · intro w hw'
              rcases List.mem_or_eq_of_mem_set hw' with hw' | rfl
              · exact ww w hw'
              · exact hv
            · rw [hl] at hlen; simp [changeF] at hlen ⊢; omega
          · exact ⟨⟨words, inp, out, { x with l := l, at_ := x.at_ + 1 } :: xs, 3⟩, by simp [doF, hl, hc, hin], fun h => by simp at h, by simp, ap, wl⟩
    rw [if_neg (by omega)] at hfi
    by_cases h6 : op = 6
    · subst h6
      simp only [if_true] at hfi
      obtain ⟨_, _, f0, f1⟩ := hfi
      simp [changeF] at s3
      cases hl : x.l with
      | nil => rw [hl] at hlen; simp at hlen; omega
      | cons b l0 =>
        cases l0 with
        | nil => rw [hl] at hlen; simp at hlen; omega
        | cons a l =>
          obtain ⟨hb, hl'⟩ := wtail b (a :: l) hl
          have ha := hl' a (by simp)
          obtain ⟨v, e, hv, v0, v1⟩ := apply_some A a b f0 f1 ha.1 ha.2 hb.1 hb.2
          by_cases he : e = 0
          · subst he
            refine ⟨⟨words, inp, out, { x with l := v :: l, at_ := x.at_ + 1 } :: xs, 0⟩, by simp [doF, hl, hv], fun _ => ⟨wl, ww, top _ _ (nx (by decide) (by decide)) ?_ ?_, by simp⟩, by simp, ap, wl⟩
            · rw [hl] at hlen; simp [changeF] at hlen ⊢; omega
            · intro w hw'
              rcases List.mem_cons.1 hw' with rfl | hw'
              · exact ⟨v0, v1⟩
              · exact hl' w (by simp [hw'])
          · exact ⟨⟨words, inp, out, { x with l := l, at_ := x.at_ + 1 } :: xs, 2⟩, by simp [doF, hl, hv, he], fun h => by simp at h, by simp, ap, wl⟩
    rw [if_neg h6] at hfi
    by_cases h7 : op = 7
    · subst h7
      simp [changeF] at s3
      cases hl : x.l with
      | nil => rw [hl] at hlen; simp at hlen; omega
      | cons u l =>
        obtain ⟨hu, hl'⟩ := wtail u l hl
        refine ⟨⟨words, inp, out, { x with l := (if u = 0 then 1 else 0) :: l, at_ := x.at_ + 1 } :: xs, 0⟩, by simp [doF, hl], fun _ => ⟨wl, ww, top _ _ (nx (by decide) (by decide)) ?_ ?_, by simp⟩, by simp, ap, wl⟩
        · rw [hl] at hlen; simp [changeF] at hlen ⊢; omega
        · intro w hw'
          rcases List.mem_cons.1 hw' with rfl | hw'
          · split <;> decide
          · exact hl' w hw'
    by_cases h8 : op = 8
    · subst h8
      refine ⟨⟨words, inp, out, { x with at_ := A } :: xs, 0⟩, by simp [doF], fun _ => ⟨wl, ww, top A x.l (by simp [nextF]) ?_ hw, by simp⟩, by simp, ap, wl⟩
      simp [changeF]; omega
    by_cases h9 : op = 9
    · subst h9
      simp [changeF] at s3
      cases hl : x.l with
      | nil => rw [hl] at hlen; simp at hlen; omega
      | cons u l =>
        obtain ⟨hu, hl'⟩ := wtail u l hl
        by_cases hz : u = 0
        · refine ⟨⟨words, inp, out, { x with l := l, at_ := A } :: xs, 0⟩, by simp [doF, hl, hz], fun _ => ⟨wl, ww, top A l (by simp [nextF]) ?_ hl', by simp⟩, by simp, ap, wl⟩
          rw [hl] at hlen; simp [changeF] at hlen ⊢; omega
        · refine ⟨⟨words, inp, out, { x with l := l, at_ := x.at_ + 1 } :: xs, 0⟩, by simp [doF, hl, hz], fun _ => ⟨wl, ww, top _ l (nx (by decide) (by decide)) ?_ hl', by simp⟩, by simp, ap, wl⟩
          rw [hl] at hlen; simp [changeF] at hlen ⊢; omega
    by_cases h10 : op = 10
    · subst h10
      simp at hfi
      obtain ⟨_, _, f0, f1⟩ := hfi
      have hA : 0 ≤ A ∧ A < (fs.length : Int) := ⟨f0, by omega⟩
      have hk : A.toNat < fs.length := by omega
      obtain ⟨g0, g1, g2, g3, g4, _, K, r, hr⟩ := hP.right.2.2.2.2.1 A.toNat hk
      have hAA : ((A.toNat : Nat) : Int) = A := Int.toNat_of_nonneg f0
      rw [hAA] at g0 g1 g2 g3 g4 hr
      simp [changeF, hA] at s2 s3
      have hp : (rd_T28 fs A).f0 ≤ (x.l.length : Int) := by omega
      have hcall : 0 ≤ (rd_T28 fs A).f2 ∧ 0 ≤ (rd_T28 fs A).f1 ∧ (rd_T28 fs A).f2 + (rd_T28 fs A).f1 ≤ (words.length : Int) := ⟨g2, by omega, by omega⟩
      have hll := layF_len words (rd_T28 fs A).f2.toNat (rd_T28 fs A).f1.toNat (x.l.take (rd_T28 fs A).f0.toNat).reverse (by omega)
      refine ⟨⟨layF words (rd_T28 fs A).f2.toNat (rd_T28 fs A).f1.toNat (x.l.take (rd_T28 fs A).f0.toNat).reverse, inp, out, ⟨rd_T28 fs A, 0, []⟩ :: { x with l := x.l.drop (rd_T28 fs A).f0.toNat, at_ := x.at_ + 1 } :: xs, 0⟩, ?_, fun _ => ⟨by rw [← wl]; exact hll, ?_, ?_, by simp⟩, by simp, ap, by rw [← wl]; exact hll⟩
      · simp [doF, callF, hA, g0, hp, hcall]
      · unfold layF
        refine splice_words (splice_words ww fun u hu => ?_) fun u hu => ?_
        · rw [(List.mem_replicate.1 hu).2]; decide
        · exact hw u (List.mem_of_mem_take (List.mem_reverse.1 (List.mem_of_mem_take hu)))
      · have hD' := deep_of hr
        refine ⟨⟨⟨A.toNat, hk, by rw [hAA]⟩, ⟨r, hD', by simp, by have := hD'.2.1; show (0 : Int) < _; exact_mod_cast this, by show rd r 0 = ((0 : Nat) : Int) + 0; rw [hD'.2.2.1]; rfl⟩, by simp⟩, ?_⟩
        obtain ⟨t0, t1, t2⟩ := s5 (x.at_ + 1) (nx (by decide) (by decide))
        refine ⟨⟨⟨i, hi, hxf⟩, ⟨o, ⟨hol, by omega, ho0, hst⟩, t0, by rw [← hol]; exact t1, ?_⟩, fun u hu => hw u (List.mem_of_mem_drop hu)⟩, hch⟩
        show rd o (x.at_ + 1) = ((x.l.drop (rd_T28 fs A).f0.toNat).length : Int) + oneF (rd_T28 fs A).f3
        rw [t2, List.length_drop]
        simp [changeF, hA]
        omega
    by_cases h11 : op = 11
    · subst h11
      have e11 := s4 rfl
      simp [changeF] at e11
      cases xs with
      | nil => exact ⟨⟨words, inp, out, [], 1⟩, by simp [doF], fun h => by simp at h, by simp, ap, wl⟩
      | cons y ys =>
        obtain ⟨⟨hyi, ⟨o', hD', b0, b1, hd'⟩, hyw⟩, hch'⟩ := hch
        cases hwd : x.f.f3 with
        | true =>
          rw [hwd] at hd' e11
          cases hl : x.l with
          | nil => rw [hl] at hlen; simp [oneF] at hlen e11; omega
          | cons u l =>
            obtain ⟨hu, _⟩ := wtail u l hl
            refine ⟨⟨words, inp, out, { y with l := u :: y.l } :: ys, 0⟩, by simp [doF, hl, hwd], fun _ => ⟨wl, ww, ⟨⟨hyi, ⟨o', hD', b0, b1, ?_⟩, ?_⟩, hch'⟩, by simp⟩, by simp, ap, wl⟩
            · show rd o' y.at_ = ((u :: y.l).length : Int) + 0
              rw [hd']; simp [oneF]
            · intro w hw'
              rcases List.mem_cons.1 hw' with rfl | hw'
              · exact hu
              · exact hyw w hw'
        | false =>
          rw [hwd] at hd'
          refine ⟨⟨words, inp, out, y :: ys, 0⟩, by simp [doF, hwd], fun _ => ⟨wl, ww, ⟨⟨hyi, ⟨o', hD', b0, b1, by simpa [oneF] using hd'⟩, hyw⟩, hch'⟩, by simp⟩, by simp, ap, wl⟩
    by_cases h12 : op = 12
    · subst h12
      by_cases hz : inp.size = 0
      · refine ⟨⟨words, inp, out, { x with l := 256 :: x.l, at_ := x.at_ + 1 } :: xs, 0⟩, by simp [doF, hz], fun _ => ⟨wl, ww, top _ _ (nx (by decide) (by decide)) ?_ ?_, by simp⟩, by simp, ap, wl⟩
        · simp [changeF]; omega
        · intro w hw'
          rcases List.mem_cons.1 hw' with rfl | hw'
          · decide
          · exact hw w hw'
      · refine ⟨⟨words, inp.extract 1 inp.size, out, { x with l := bt inp 0 :: x.l, at_ := x.at_ + 1 } :: xs, 0⟩, by simp [doF, hz], fun _ => ⟨wl, ww, top _ _ (nx (by decide) (by decide)) ?_ ?_, by simp⟩, by simp, ap, wl⟩
        · simp [changeF]; omega
        · intro w hw'
          rcases List.mem_cons.1 hw' with rfl | hw'
          · exact bt_word _ _
          · exact hw w hw'
    by_cases h13 : op = 13
    · subst h13
      simp [changeF] at s3
      cases hl : x.l with
      | nil => rw [hl] at hlen; simp at hlen; omega
      | cons u l =>
        obtain ⟨hu, hl'⟩ := wtail u l hl
        by_cases ho : (65536 : Int) ≤ out.length
        · exact ⟨⟨words, inp, out, { x with l := l, at_ := x.at_ + 1 } :: xs, 4⟩, by simp [doF, hl, ho], fun h => by simp at h, by simp, ap, wl⟩
        · refine ⟨⟨words, inp, out ++ [u % 256], { x with l := l, at_ := x.at_ + 1 } :: xs, 0⟩, by simp [doF, hl, ho], fun _ => ⟨wl, ww, top _ _ (nx (by decide) (by decide)) ?_ hl', by simp⟩, by simp, ⟨_, rfl⟩, wl⟩
          rw [hl] at hlen; simp [changeF] at hlen ⊢; omega
    exfalso
    simp [h1, h2, h3, h4, h5, h6, h7, h8, h9, h10, h11, h12, h13] at hfi

theorem start_good {sw : Nat} {fs : List S28} (hP : Prg sw fs) (inp : ByteArray) :
    ∃ m, callF fs ((fs.length : Int) - 1) [] ⟨List.replicate (sw : Int).toNat 0, inp, [], [], 0⟩ = some m ∧ Good fs sw m ∧ m.end_ = 0 ∧ m.out = [] ∧ m.inp = inp := by
  obtain ⟨_, _, l1, _, hf, _, _⟩ := hP.right
  have hk : fs.length - 1 < fs.length := by omega
  obtain ⟨g0, g1, g2, g3, g4, _, K, r, hr⟩ := hf (fs.length - 1) hk
  have e : ((fs.length - 1 : Nat) : Int) = (fs.length : Int) - 1 := by omega
  rw [e] at g0 g1 g2 g3 g4 hr
  have hc : 0 ≤ (fs.length : Int) - 1 ∧ (fs.length : Int) - 1 < fs.length ∧ 0 ≤ (rd_T28 fs ((fs.length : Int) - 1)).f2 ∧ 0 ≤ (rd_T28 fs ((fs.length : Int) - 1)).f1 ∧ (rd_T28 fs ((fs.length : Int) - 1)).f2 + (rd_T28 fs ((fs.length : Int) - 1)).f1 ≤ ((List.replicate (sw : Int).toNat (0 : Int)).length : Int) := by
    refine ⟨by omega, by omega, g2, by omega, ?_⟩
    rw [List.length_replicate]
    omega
  have hll := layF_len (List.replicate (sw : Int).toNat 0) (rd_T28 fs ((fs.length : Int) - 1)).f2.toNat (rd_T28 fs ((fs.length : Int) - 1)).f1.toNat [] (by omega)
  refine ⟨_, by unfold callF; rw [if_pos hc], ⟨?_, ?_, ?_, by simp⟩, rfl, rfl, rfl⟩
  · show (layF _ _ _ _).length = sw
    rw [hll, List.length_replicate]
    omega
  · show ∀ u ∈ layF _ _ _ _, word u
    unfold layF
    refine splice_words (splice_words (fun u hu => ?_) fun u hu => ?_) fun u hu => ?_
    · rw [(List.mem_replicate.1 hu).2]; decide
    · rw [(List.mem_replicate.1 hu).2]; decide
    · simp at hu
  · have hD' := deep_of hr
    exact ⟨⟨⟨fs.length - 1, hk, by rw [e]⟩, ⟨r, hD', by simp, by have := hD'.2.1; show (0 : Int) < _; exact_mod_cast this, by show rd r 0 = ((0 : Nat) : Int) + 0; rw [hD'.2.2.1]; rfl⟩, by simp⟩, trivial⟩

theorem loop_total {sw : Nat} {fs : List S28} (hP : Prg sw fs) (fuel : Int) : ∀ (k st : Nat) (m : Mc), (m.end_ = 0 → Good fs sw m) → fuel < st + k → ∃ r, loopF fs fuel (k + 1) st m = some r := by
  intro k
  induction k with
  | zero =>
    intro st m _ hk
    rw [loopF_succ]
    by_cases he : m.end_ ≠ 0
    · rw [if_pos he]; exact ⟨_, rfl⟩
    · rw [if_neg he, if_pos (by omega)]; exact ⟨_, rfl⟩
  | succ k ih =>
    intro st m hG hk
    rw [loopF_succ]
    by_cases he : m.end_ ≠ 0
    · rw [if_pos he]; exact ⟨_, rfl⟩
    · rw [if_neg he]
      by_cases hf : fuel ≤ st
      · rw [if_pos hf]; exact ⟨_, rfl⟩
      · rw [if_neg hf]
        have he' : m.end_ = 0 := by simpa using he
        obtain ⟨m', h1, h2, _⟩ := step_good hP (hG he') he'
        rw [h1, Option.bind_some]
        exact ih (st + 1) m' h2 (by omega)

/-- More rounds answer alike. -/
theorem loop_mono (fs : List S28) (fuel : Int) : ∀ (k k' st : Nat) (m : Mc) (r : Int × List Int × Nat), loopF fs fuel k st m = some r → k ≤ k' → loopF fs fuel k' st m = some r := by
  intro k
  induction k with
  | zero => intro k' st m r h; cases h
  | succ k ih =>
    intro k' st m r h hk
    obtain ⟨k', rfl⟩ : ∃ j, k' = j + 1 := ⟨k' - 1, by omega⟩
    rw [loopF_succ] at h ⊢
    split
    · rename_i he; rw [if_pos he] at h; exact h
    · rename_i he
      rw [if_neg he] at h
      split
      · rename_i hf; rw [if_pos hf] at h; exact h
      · rename_i hf
        rw [if_neg hf] at h
        cases hs : stepF fs m with
        | none => rw [hs] at h; cases h
        | some m' =>
          rw [hs, Option.bind_some] at h
          rw [Option.bind_some]
          exact ih k' (st + 1) m' r h (by omega)

theorem loop_out {sw : Nat} {fs : List S28} (hP : Prg sw fs) (fuel : Int) : ∀ (k st : Nat) (m : Mc) (e : Int) (o : List Int) (t : Nat), (m.end_ = 0 → Good fs sw m) → m.end_ ≠ 5 → loopF fs fuel k st m = some (e, o, t) → st ≤ t ∧ (∃ s, o = m.out ++ s) ∧ (e ≠ 5 → (t : Int) ≤ fuel ∨ t = st) := by
  intro k
  induction k with
  | zero => intro st m e o t _ _ h; cases h
  | succ k ih =>
    intro st m e o t hG h5 h
    rw [loopF_succ] at h
    split at h
    · simp only [Option.some.injEq, Prod.mk.injEq] at h
      obtain ⟨rfl, rfl, rfl⟩ := h
      exact ⟨by omega, ⟨[], by simp⟩, fun _ => .inr rfl⟩
    · rename_i he
      split at h
      · simp only [Option.some.injEq, Prod.mk.injEq] at h
        obtain ⟨rfl, rfl, rfl⟩ := h
        exact ⟨by omega, ⟨[], by simp⟩, fun h => absurd rfl h⟩
      · rename_i hf
        have he' : m.end_ = 0 := by simpa using he
        obtain ⟨m', h1, h2, h3, ⟨s, hs⟩, _⟩ := step_good hP (hG he') he'
        rw [h1, Option.bind_some] at h
        obtain ⟨i1, ⟨s', i2⟩, i3⟩ := ih _ _ _ _ _ h2 h3 h
        refine ⟨by omega, ⟨s ++ s', by rw [i2, hs, List.append_assoc]⟩, fun hne => ?_⟩
        rcases i3 hne with h | h <;> omega

theorem loop_more {sw : Nat} {fs : List S28} (hP : Prg sw fs) (f1 f2 : Int) (hf : f1 ≤ f2) : ∀ (k k' st : Nat) (m : Mc) (e e' : Int) (o o' : List Int) (t t' : Nat), (m.end_ = 0 → Good fs sw m) → m.end_ ≠ 5 → (st : Int) ≤ f1 →
    loopF fs f1 k st m = some (e, o, t) → loopF fs f2 k' st m = some (e', o', t') →
    (e ≠ 5 → e' = e ∧ o' = o ∧ t' = t ∧ (t : Int) ≤ f1) ∧ (e = 5 → (t : Int) = f1 ∧ t ≤ t' ∧ ∃ s, o' = o ++ s) := by
  intro k
  induction k with
  | zero => intro k' st m e e' o o' t t' _ _ _ h; cases h
  | succ k ih =>
    intro k' st m e e' o o' t t' hG h5 hst h h'
    cases k' with
    | zero => cases h'
    | succ k' =>
      have h'' := h'
      rw [loopF_succ] at h h'
      split at h
      · rename_i he
        rw [if_pos he] at h'
        simp only [Option.some.injEq, Prod.mk.injEq] at h h'
        obtain ⟨rfl, rfl, rfl⟩ := h
        obtain ⟨rfl, rfl, rfl⟩ := h'
        exact ⟨fun _ => ⟨rfl, rfl, rfl, hst⟩, fun h => absurd h h5⟩
      · rename_i he
        rw [if_neg he] at h'
        split at h
        · rename_i hfu
          simp only [Option.some.injEq, Prod.mk.injEq] at h
          obtain ⟨rfl, rfl, rfl⟩ := h
          obtain ⟨j1, j2, _⟩ := loop_out hP f2 _ _ _ _ _ _ hG h5 h''
          exact ⟨fun h => absurd rfl h, fun _ => ⟨by omega, j1, j2⟩⟩
        · rename_i hfu
          rw [if_neg (by omega)] at h'
          have he' : m.end_ = 0 := by simpa using he
          obtain ⟨m', h1, h2, h3, _, _⟩ := step_good hP (hG he') he'
          rw [h1, Option.bind_some] at h h'
          exact ih k' (st + 1) m' e e' o o' t t' h2 h3 (by omega) h h'

theorem run_total {sw : Nat} {fs : List S28} (hP : Prg sw fs) (inp : ByteArray) (fuel : Int) (K : Nat) (hK : fuel + 2 ≤ K) (hK1 : 1 ≤ K) : ∃ e o t, runF sw fs inp fuel K = some (e, o, t) := by
  obtain ⟨m, hm, hG, he, _, _⟩ := start_good hP inp
  obtain ⟨k, rfl⟩ : ∃ k, K = k + 1 := ⟨K - 1, by omega⟩
  obtain ⟨⟨e, o, t⟩, hr⟩ := loop_total hP fuel k 0 m (fun _ => hG) (by omega)
  refine ⟨e, o, t, ?_⟩
  unfold runF
  rw [hm, Option.bind_some]
  exact hr

theorem run_more {sw : Nat} {fs : List S28} (hP : Prg sw fs) (inp : ByteArray) (f1 f2 : Int) (h0 : 0 ≤ f1) (hf : f1 ≤ f2) (K : Nat) (e e' : Int) (o o' : List Int) (t t' : Nat) (h : runF sw fs inp f1 K = some (e, o, t)) (h' : runF sw fs inp f2 K = some (e', o', t')) :
    (e ≠ 5 → e' = e ∧ o' = o ∧ t' = t ∧ (t : Int) ≤ f1) ∧ (e = 5 → (t : Int) = f1 ∧ t ≤ t' ∧ ∃ s, o' = o ++ s) := by
  obtain ⟨m, hm, hG, he, _, _⟩ := start_good hP inp
  unfold runF at h h'
  rw [hm, Option.bind_some] at h h'
  exact loop_more hP f1 f2 hf K K 0 m e e' o o' t t' (fun _ => hG) (by omega) h0 h h'
end Go.Proofs.Ytlngcolnjgloaaa
