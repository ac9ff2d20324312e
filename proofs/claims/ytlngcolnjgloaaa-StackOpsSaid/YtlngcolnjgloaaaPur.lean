/- The stack machine as a plain function: what an instruction does, a step, a run. Conditions: none. -/
import Derived.Test.YtlngcolnjgloaaaMop
import Derived.Laws.CopyOwn
namespace Go.Proofs.Ytlngcolnjgloaaa
open Go.RowKit Go.Proofs.YtlngcolnjgloaaaW.PrintWords PStackRuns
set_option linter.unusedVariables false
set_option linter.unusedSimpArgs false

/-- A call's words: the parameters, then zeros. -/
def layF (ws : List Int) (first slots : Nat) (args : List Int) : List Int := splice (splice ws first (List.replicate slots 0)) first (args.take slots)

def callF (fs : List S28) (f : Int) (args : List Int) (m : Mc) : Option Mc :=
  if 0 ≤ f ∧ f < fs.length ∧ 0 ≤ (rd_T28 fs f).f2 ∧ 0 ≤ (rd_T28 fs f).f1 ∧ (rd_T28 fs f).f2 + (rd_T28 fs f).f1 ≤ m.words.length then
    some { m with words := layF m.words (rd_T28 fs f).f2.toNat (rd_T28 fs f).f1.toNat args, calls := ⟨rd_T28 fs f, 0, []⟩ :: m.calls }
  else none

def word (u : Int) : Prop := 0 ≤ u ∧ u < 4294967296
instance (u : Int) : Decidable (word u) := by unfold word; infer_instance

def doF (fs : List S28) (i : S25) (m : Mc) : Option Mc :=
  match m.calls with
  | [] => none
  | x :: xs =>
    if i.f0 = 1 then some { m with calls := { x with l := i.f3 :: x.l } :: xs }
    else if i.f0 = 2 then if 0 ≤ i.f1 ∧ i.f1 < m.words.length then some { m with calls := { x with l := rd m.words i.f1 :: x.l } :: xs } else none
    else if i.f0 = 3 then
      match x.l with
      | u :: l => if 0 ≤ i.f1 ∧ i.f1 < m.words.length then some { m with words := m.words.set i.f1.toNat u, calls := { x with l := l } :: xs } else none
      | [] => none
    else if i.f0 = 4 then
      match x.l with
      | u :: l => if word u ∧ 0 ≤ i.f1 ∧ 0 ≤ i.f2 ∧ i.f2 ≤ 4096 then
          (if u < i.f2 then (if i.f1 + u < m.words.length then some { m with calls := { x with l := rd m.words (i.f1 + u) :: l } :: xs } else none)
            else some { m with calls := { x with l := l } :: xs, end_ := 3 }) else none
      | [] => none
    else if i.f0 = 5 then
      match x.l with
      | v :: u :: l => if word u ∧ 0 ≤ i.f1 ∧ 0 ≤ i.f2 ∧ i.f2 ≤ 4096 then
          (if u < i.f2 then (if i.f1 + u < m.words.length then some { m with words := m.words.set (i.f1 + u).toNat v, calls := { x with l := l } :: xs } else none)
            else some { m with calls := { x with l := l } :: xs, end_ := 3 }) else none
      | _ => none
    else if i.f0 = 6 then
      match x.l with
      | b :: a :: l =>
        match word_Apply.f 1 i.f1 a b with
        | some (v, e) => if e = 0 then some { m with calls := { x with l := v :: l } :: xs } else some { m with calls := { x with l := l } :: xs, end_ := 2 }
        | none => none
      | _ => none
    else if i.f0 = 7 then
      match x.l with
      | u :: l => some { m with calls := { x with l := (if u = 0 then 1 else 0) :: l } :: xs }
      | [] => none
    else if i.f0 = 8 then some { m with calls := { x with at_ := i.f1 } :: xs }
    else if i.f0 = 9 then
      match x.l with
      | u :: l => if u = 0 then some { m with calls := { x with l := l, at_ := i.f1 } :: xs } else some { m with calls := { x with l := l } :: xs }
      | [] => none
    else if i.f0 = 10 then
      if 0 ≤ i.f1 ∧ i.f1 < fs.length ∧ 0 ≤ (rd_T28 fs i.f1).f0 ∧ (rd_T28 fs i.f1).f0 ≤ x.l.length then
        callF fs i.f1 (x.l.take (rd_T28 fs i.f1).f0.toNat).reverse { m with calls := { x with l := x.l.drop (rd_T28 fs i.f1).f0.toNat } :: xs }
      else none
    else if i.f0 = 11 then
      match xs with
      | [] => some { m with calls := [], end_ := 1 }
      | y :: ys => if x.f.f3 = true then (match x.l with
          | u :: _ => some { m with calls := { y with l := u :: y.l } :: ys }
          | [] => none) else some { m with calls := y :: ys }
    else if i.f0 = 12 then
      if m.inp.size = 0 then some { m with calls := { x with l := 256 :: x.l } :: xs }
      else some { m with inp := m.inp.extract 1 m.inp.size, calls := { x with l := bt m.inp 0 :: x.l } :: xs }
    else if i.f0 = 13 then
      match x.l with
      | u :: l => if (65536 : Int) ≤ m.out.length then some { m with calls := { x with l := l } :: xs, end_ := 4 } else some { m with calls := { x with l := l } :: xs, out := m.out ++ [u % 256] }
      | [] => none
    else none

def stepF (fs : List S28) (m : Mc) : Option Mc :=
  match m.calls with
  | [] => none
  | x :: xs => if 0 ≤ x.at_ ∧ x.at_ < x.f.f4.length then doF fs (rd_T25 x.f.f4 x.at_) { m with calls := { x with at_ := x.at_ + 1 } :: xs } else none

/-- End, output, steps. -/
def loopF (fs : List S28) (fuel : Int) : Nat → Nat → Mc → Option (Int × List Int × Nat)
  | 0, _, _ => none
  | k + 1, st, m => if m.end_ ≠ 0 then some (m.end_, m.out, st) else if fuel ≤ st then some (5, m.out, st) else (stepF fs m).bind (loopF fs fuel k (st + 1))

def runF (sw : Int) (fs : List S28) (inp : ByteArray) (fuel : Int) (k : Nat) : Option (Int × List Int × Nat) :=
  (callF fs ((fs.length : Int) - 1) [] ⟨List.replicate sw.toNat 0, inp, [], [], 0⟩).bind (loopF fs fuel k 0)

theorem Mach.apart {w0 W W' : World} {mb wb sc fb : Nat} {ps : List (Nat × Value)} {outv callsv v : Value} {sw : Int} {SA : Option Addr} {fs : List S28} {m : Mc} {n : Nat} {cs : Array Value} {ys : List Value}
    (h : Mach w0 W mb ps wb outv callsv sw SA sc fs m) (hB : Below w0.heap.size w0 W') (hS : ∀ i, i < W.heap.size → i ≠ fb → some i ≠ v.ownBlock → W'.heap[i]? = W.heap[i]?)
    (hfb : W.heap[fb]? = some (.cells cs 67 (0, 0))) (ho : W.ownsRow w0.heap.size 22 1 v n ys) (hn : v.ownBlock ≠ some wb) (ha : ∀ q ∈ ps, q.1 ≠ fb ∧ (v.ownBlock = none ∨ q.2.ownBlock ≠ v.ownBlock)) :
    Mach w0 W' mb ps wb outv callsv sw SA sc fs m := by
  have hty := Frs.typed h.frs
  refine ⟨hB, h.gem, h.gew, ?_, ?_, ?_, ?_, ?_⟩
  · rw [hS mb (blk_lt h.mblk) (ty_ne h.mblk hfb (by decide)) (own_ne ho h.mblk (by decide))]
    exact h.mblk
  · rw [hS wb (blk_lt h.wblk) (ty_ne h.wblk hfb (by decide)) (fun e => hn e.symm)]
    exact h.wblk
  · refine own_move h.out fun k hk => hS k (own_lt h.out k hk) (own_ne_blk h.out hfb (by decide) hk) ?_
    rcases own_type_ne h.out ho (by decide) with e | e
    · rw [e] at hk; cases hk
    · rw [← hk]; exact e
  · refine own_move h.calls fun k hk => hS k (own_lt h.calls k hk) (own_ne_blk h.calls hfb (by decide) hk) ?_
    rcases own_type_ne h.calls ho (by decide) with e | e
    · rw [e] at hk; cases hk
    · rw [← hk]; exact e
  · refine Frs.move h.frs fun q hq => ?_
    obtain ⟨⟨ds, hq1⟩, hq2, _⟩ := hty q hq
    refine ⟨hS q.1 (blk_lt hq1) (ha q hq).1 (own_ne ho hq1 (by decide)), fun k hk => ?_⟩
    obtain ⟨_, hk2, cs', hk3⟩ := hq2 k hk
    refine hS k hk2 (ty_ne hk3 hfb (by decide)) ?_
    rcases (ha q hq).2 with e | e
    · rw [e]; simp
    · rw [← hk]; exact e
end Go.Proofs.Ytlngcolnjgloaaa
