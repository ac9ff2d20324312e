/- Depths as a plain function; the worlds of its walk. Conditions: none. -/
import Derived.Test.YtlngcolnjgloaaaRep
import Derived.Test.YtlngcolnjgloaaaMem
namespace Go.Proofs.Ytlngcolnjgloaaa
set_option linter.unusedVariables false
set_option linter.unusedSimpArgs false
open Go.RowKit Go.Proofs.YtlngcolnjgloaaaW.PrintWords PStackRuns

def oneF (b : Bool) : Int := if b = true then 1 else 0

def changeF (fs : List S28) (wd : Bool) (i : S25) : Int × Int × Bool :=
  if i.f0 = 1 then (0, 1, true) else if i.f0 = 2 then (0, 1, true) else if i.f0 = 12 then (0, 1, true)
  else if i.f0 = 3 then (1, 0, true) else if i.f0 = 9 then (1, 0, true) else if i.f0 = 13 then (1, 0, true)
  else if i.f0 = 4 then (1, 1, true) else if i.f0 = 7 then (1, 1, true)
  else if i.f0 = 5 then (2, 0, true) else if i.f0 = 6 then (2, 1, true) else if i.f0 = 8 then (0, 0, true)
  else if i.f0 = 10 then (if 0 ≤ i.f1 ∧ i.f1 < fs.length then ((rd_T28 fs i.f1).f0, oneF (rd_T28 fs i.f1).f3, true) else (0, 0, false))
  else if i.f0 = 11 then (oneF wd, 0, true) else (0, 0, false)

theorem one_f (b : Bool) : stack_one.f b = some (oneF b) := by
  cases b <;> rfl

theorem change_f (a0 : Int) (fs : List S28) (b0 b1 b2 : Int) (wd : Bool) (l : List S25) (i : S25) :
    stack_change.f 3 a0 fs b0 b1 b2 wd l i.f0 i.f1 i.f2 i.f3 = some ((changeF fs wd i).1, (changeF fs wd i).2.1, (changeF fs wd i).2.2) := by
  unfold stack_change.f changeF
  simp only [stack_change.j0, stack_change.j1, stack_change.j2, one_f, Option.bind_some]
  generalize i.f0 = p
  by_cases h1 : p = 1
  · subst h1; simp
  by_cases h2 : p = 2
  · subst h2; simp
  by_cases h3 : p = 12
  · subst h3; simp
  by_cases h4 : p = 3
  · subst h4; simp
  by_cases h5 : p = 9
  · subst h5; simp
  by_cases h6 : p = 13
  · subst h6; simp
  by_cases h7 : p = 4
  · subst h7; simp
  by_cases h8 : p = 7
  · subst h8; simp
  by_cases h9 : p = 5
  · subst h9; simp
  by_cases h10 : p = 6
  · subst h10; simp
  by_cases h11 : p = 8
  · subst h11; simp
  by_cases h12 : p = 10
  · subst h12
    by_cases k1 : i.f1 < 0
    · have : ¬ (0 ≤ i.f1 ∧ i.f1 < fs.length) := by omega
      simp [k1, this]
    · by_cases k2 : i.f1 ≥ fs.length
      · have : ¬ (0 ≤ i.f1 ∧ i.f1 < fs.length) := by omega
        simp [k1, k2, this]
      · have k3 : 0 ≤ i.f1 := by omega
        have k4 : i.f1 < fs.length := by omega
        have k5 : ¬ (fs.length : Int) ≤ i.f1 := by omega
        simp [k1, k3, k4, k5]
  by_cases h13 : p = 11
  · subst h13; simp
  simp [h1, h2, h3, h4, h5, h6, h7, h8, h9, h10, h11, h12, h13]

def nextF (i : S25) (at_ : Int) : List Int := if i.f0 = 11 then [] else if i.f0 = 8 then [i.f1] else if i.f0 = 9 then [at_ + 1, i.f1] else [at_ + 1]

theorem next_f (i : S25) (at_ : Int) (h0 : 0 ≤ at_) (h1 : at_ < 4611686018427387904) : stack_next.f i.f0 i.f1 i.f2 i.f3 at_ = some (nextF i at_) := by
  unfold stack_next.f nextF
  rw [show wrap64 (at_ + 1) = at_ + 1 from IntWalk.wrap64_in _ (by omega)]
  split
  · rfl
  · split
    · rfl
    · split <;> rfl

/-- The targets of one instruction. -/
def innF (d : Int) : List Int → List Int → List Int → Option (List Int × List Int)
  | [], o, q => some (o, q)
  | t :: ts, o, q => if t < 0 ∨ (o.length : Int) ≤ t then none else if rd o t < 0 then innF d ts (o.set t.toNat d) (q ++ [t]) else if rd o t ≠ d then none else innF d ts o q

def sm (x : Int) : Prop := -1152921504606846976 ≤ x ∧ x ≤ 1152921504606846976
instance (x : Int) : Decidable (sm x) := by unfold sm; infer_instance

/-- The sweep: none where numbers run too far. -/
def outF (fs : List S28) (f : S28) : Nat → List Int → List Int → Option (List Int × Bool)
  | 0, _, _ => none
  | _ + 1, o, [] => some (o, true)
  | k + 1, o, a :: q =>
    if 0 ≤ a ∧ a < o.length ∧ q.length ≤ 1000000 then
      if sm (changeF fs f.f3 (rd_T25 f.f4 a)).1 ∧ sm (rd o a) then
        if (changeF fs f.f3 (rd_T25 f.f4 a)).2.2 = false ∨ (changeF fs f.f3 (rd_T25 f.f4 a)).1 < 0 ∨ rd o a - (changeF fs f.f3 (rd_T25 f.f4 a)).1 < 0 ∨ ((rd_T25 f.f4 a).f0 = 11 ∧ rd o a - (changeF fs f.f3 (rd_T25 f.f4 a)).1 ≠ 0) then some ([], false)
        else match innF (rd o a - (changeF fs f.f3 (rd_T25 f.f4 a)).1 + (changeF fs f.f3 (rd_T25 f.f4 a)).2.1) (nextF (rd_T25 f.f4 a) a) o q with
          | none => some ([], false)
          | some (o', q') => outF fs f k o' q'
      else none
    else none

def depthsF (fs : List S28) (f : Int) (k : Nat) : Option (List Int × Bool) :=
  if 0 ≤ f ∧ f < fs.length then
    if 0 < (rd_T28 fs f).f4.length ∧ (rd_T28 fs f).f4.length ≤ 1000000 then outF fs (rd_T28 fs f) k ((List.replicate (rd_T28 fs f).f4.length (-1)).set 0 0) [0]
    else none
  else none

theorem innF_length {d : Int} : ∀ {ts o q o' q' : List Int}, innF d ts o q = some (o', q') → o'.length = o.length := by
  intro ts
  induction ts with
  | nil => intro o q o' q' h; simp only [innF, Option.some.injEq, Prod.mk.injEq] at h; rw [h.1]
  | cons t ts ih =>
    intro o q o' q' h
    unfold innF at h
    split at h
    · cases h
    · split at h
      · have := ih h; simpa using this
      · split at h
        · cases h
        · exact ih h

def OnOk (x : Int × Int × Bool) : Prop := 0 ≤ x.2.1 ∧ x.2.1 ≤ 1
theorem onOk_ite {c : Prop} [Decidable c] {a b : Int × Int × Bool} (h1 : OnOk a) (h2 : OnOk b) : OnOk (if c then a else b) := by
  split
  · exact h1
  · exact h2
theorem oneF_ok (b : Bool) : 0 ≤ oneF b ∧ oneF b ≤ 1 := by cases b <;> decide
theorem change_on (fs : List S28) (wd : Bool) (i : S25) : OnOk (changeF fs wd i) := by
  unfold changeF
  repeat' apply onOk_ite
  all_goals first | exact oneF_ok _ | (unfold OnOk; decide) | (unfold OnOk; simp)

/-! ### the worlds -/
structure DInv (w0 W : World) (gb gf go : Nat) (sw : Int) (SA : Option Addr) (sc : Nat) (fs : List S28) (f : S28) (A4 : Option Addr) (c4 : Nat) (o : List Int) : Prop where
  bel : Below w0.heap.size w0 W
  hb : W.heap[gb]? = some (.cells #[.int .i64 sw, .slice SA fs.length sc] 31 (0, 0))
  hf : W.heap[gf]? = some (.cells #[.int .i64 f.f0, .int .i64 f.f1, .int .i64 f.f2, .bool f.f3, .slice A4 f.f4.length c4] 28 (0, 0))
  ho : W.heap[go]? = some (.cells (nums .i64 o).toArray 3 (0, 0))
  olen : o.length = f.f4.length
  hgo : w0.heap.size ≤ go

section
variable {w0 W W' : World} {gb gf go : Nat} {sw : Int} {SA : Option Addr} {sc : Nat} {fs : List S28} {f : S28} {A4 : Option Addr} {c4 : Nat} {o : List Int}
theorem DInv.later (h : DInv w0 W gb gf go sw SA sc fs f A4 c4 o) (hB : Below W.heap.size W W') : DInv w0 W' gb gf go sw SA sc fs f A4 c4 o :=
  ⟨below_then h.bel h.bel.size hB, blk_below h.hb hB, blk_below h.hf hB, blk_below h.ho hB, h.olen, h.hgo⟩

theorem DInv.grown (h : DInv w0 W gb gf go sw SA sc fs f A4 c4 o) {r : Option Nat} (hg : W.grownBy W' r) (hB : Below w0.heap.size w0 W') (hr : ∀ k, r = some k → ∃ cells, W.heap[k]? = some (.cells cells 3 (0, 0))) (hne : some go ≠ r) : DInv w0 W' gb gf go sw SA sc fs f A4 c4 o := by
  refine ⟨hB, blk_grown h.hb hg ?_, blk_grown h.hf hg ?_, blk_grown h.ho hg hne, h.olen, h.hgo⟩
  · intro he
    obtain ⟨c, hc⟩ := hr gb he.symm
    rw [h.hb] at hc
    cases hc
  · intro he
    obtain ⟨c, hc⟩ := hr gf he.symm
    rw [h.hf] at hc
    cases hc

theorem DInv.cell (h : DInv w0 W gb gf go sw SA sc fs f A4 c4 o) (i : Int) (h0 : 0 ≤ i) (h1 : i < o.length) : W.cell? ⟨go, i.toNat, none⟩ = some (.int .i64 (rd o i)) := by
  rw [blk_cell h.ho]
  have : i.toNat < o.length := by omega
  simp [nums, rd, List.getD_eq_getElem?_getD, this]

theorem DInv.put (h : DInv w0 W gb gf go sw SA sc fs f A4 c4 o) (i : Int) (h0 : 0 ≤ i) (h1 : i < o.length) (x : Int) : DInv w0 (W.setCell ⟨go, i.toNat, none⟩ (.int .i64 x)) gb gf go sw SA sc fs f A4 c4 (o.set i.toNat x) := by
  have hl : i.toNat < o.length := by omega
  refine ⟨below_set h.bel h.hgo, blk_far h.hb (fun he => ?_) _, blk_far h.hf (fun he => ?_) _, blk_put h.ho _ _ ?_, by rw [List.length_set]; exact h.olen, h.hgo⟩
  · exact ty_ne h.hb h.ho (by decide) he
  · exact ty_ne h.hf h.ho (by decide) he
  · simp [nums, List.map_set]
end
/-- A block of numbers is a row of them. -/
theorem row3 {W : World} {base g : Nat} {o : List Int} {ok : Nat → Prop} (h : W.heap[g]? = some (.cells (nums .i64 o).toArray 3 (0, 0))) (hb : base ≤ g) (hok : ok g) (hm : o.length ≤ 9223372036854775807) :
    Kd.R (Kd.int .i64) 3 W base ok (.slice (some ⟨g, 0, none⟩) o.length o.length) o := by
  refine ⟨fun k hk => ?_, nums .i64 o, ⟨by rw [nums_length]; exact (Nat.mul_one _).symm, .inr ⟨g, o.length, _, rfl, hb, h, Nat.le_refl _, hm, ?_, ?_⟩⟩, ?_⟩
  · have : g = k := by simpa [Value.ownBlock] using hk
    exact this ▸ hok
  · show (nums .i64 o).toArray.size = o.length * 1
    simp [nums]
  · show (nums .i64 o).toArray.toList.take (o.length * 1) = _
    simp [nums, List.take_of_length_le]
  · refine ⟨by rw [nums_length]; exact (Nat.mul_one _).symm, fun j p hj => ?_⟩
    show (((nums .i64 o).drop (j * 1)).take 1) = [Value.int .i64 p]
    obtain ⟨hl, hp⟩ := List.getElem?_eq_some_iff.1 hj
    rw [Nat.mul_one]
    have hl' : j < (nums .i64 o).length := by simpa [nums] using hl
    rw [List.drop_eq_getElem_cons hl']
    simp [nums, hp]
end Go.Proofs.Ytlngcolnjgloaaa
