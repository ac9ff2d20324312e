/- Runs of the plain machine, several steps at once; the echo program. Conditions: none. -/
import Derived.Test.YtlngcolnjgloaaaMem
namespace Go.Proofs.Ytlngcolnjgloaaa
set_option linter.unusedVariables false
set_option linter.unusedSimpArgs false
open Go.RowKit Go.Proofs.YtlngcolnjgloaaaW.PrintWords PStackRuns

def stepsF (fs : List S28) : Nat → Mc → Option Mc
  | 0, m => some m
  | n + 1, m => if m.end_ ≠ 0 then none else (stepF fs m).bind (stepsF fs n)

theorem loopF_succ (fs : List S28) (fuel : Int) (k st : Nat) (m : Mc) : loopF fs fuel (k + 1) st m = if m.end_ ≠ 0 then some (m.end_, m.out, st) else if fuel ≤ st then some (5, m.out, st) else (stepF fs m).bind (loopF fs fuel k (st + 1)) := rfl

theorem loop_steps (fs : List S28) (fuel : Int) : ∀ (n : Nat) (m m' : Mc) (st k : Nat), stepsF fs n m = some m' → ((st + n : Nat) : Int) ≤ fuel → loopF fs fuel (k + n) st m = loopF fs fuel k (st + n) m' := by
  intro n
  induction n with
  | zero => intro m m' st k h _; simp only [stepsF, Option.some.injEq] at h; rw [h]; rfl
  | succ n ih =>
    intro m m' st k h hle
    unfold stepsF at h
    split at h
    · cases h
    · rename_i he
      rw [show k + (n + 1) = (k + n) + 1 by omega]
      rw [loopF_succ, if_neg he, if_neg (by omega)]
      cases hs : stepF fs m with
      | none => rw [hs] at h; cases h
      | some m1 =>
        rw [hs] at h
        have := ih m1 m' (st + 1) k h (by omega)
        rw [show st + 1 + n = st + (n + 1) by omega] at this
        exact this

theorem loop_end (fs : List S28) (fuel : Int) (k st : Nat) (m : Mc) (h : m.end_ ≠ 0) : loopF fs fuel (k + 1) st m = some (m.end_, m.out, st) := by
  unfold loopF
  rw [if_pos h]

def echoC : List S25 := [⟨12, 0, 0, 0⟩, ⟨3, 0, 0, 0⟩, ⟨2, 0, 0, 0⟩, ⟨1, 0, 0, 256⟩, ⟨6, 14, 0, 0⟩, ⟨9, 9, 0, 0⟩, ⟨2, 0, 0, 0⟩, ⟨13, 0, 0, 0⟩, ⟨8, 0, 0, 0⟩, ⟨11, 0, 0, 0⟩]
def echoF : S28 := ⟨0, 0, 0, false, echoC⟩

theorem echo_round (u : Int) (inp : ByteArray) (out : List Int) (hs : inp.size ≠ 0) (ho : (out.length : Int) < 65536) (b : Int) (hb : b = bt inp 0) (h0 : 0 ≤ b) (h1 : b < 256) :
    stepsF [echoF] 9 ⟨[u], inp, out, [⟨echoF, 0, []⟩], 0⟩ = some ⟨[b], inp.extract 1 inp.size, out ++ [b % 256], [⟨echoF, 0, []⟩], 0⟩ := by
  have ha : word_Apply.f 1 14 b 256 = some (1, 0) := by
    simp [word_Apply.f, word_truth.f, h1]
  have hm : ¬ (65536 : Int) ≤ out.length := by omega
  simp [stepsF, stepF, doF, echoF, echoC, rd_T25, rdOf, rd, hs, ha, hm, ← hb]
theorem echo_end (u : Int) (inp : ByteArray) (out : List Int) (hs : inp.size = 0) :
    stepsF [echoF] 7 ⟨[u], inp, out, [⟨echoF, 0, []⟩], 0⟩ = some ⟨[256], inp, out, [], 1⟩ := by
  have ha : word_Apply.f 1 14 256 256 = some (0, 0) := by decide +kernel
  simp [stepsF, stepF, doF, echoF, echoC, rd_T25, rdOf, rd, hs, ha]

theorem bt_range (s : ByteArray) (i : Int) : 0 ≤ bt s i ∧ bt s i < 256 := by
  unfold bt
  split
  · rename_i h
    have := (s[i.toNat]'h).toNat_lt
    omega
  · decide

def bytesOf (s : ByteArray) : List Int := s.data.toList.map fun b => (b.toNat : Int)

theorem bytes_step (inp : ByteArray) (hs : inp.size ≠ 0) : bytesOf inp = bt inp 0 :: bytesOf (inp.extract 1 inp.size) := by
  have h0 : 0 < inp.data.toList.length := by
    have : inp.data.toList.length = inp.size := Array.length_toList
    omega
  unfold bytesOf
  have e : inp.data.toList = inp.data.toList[0] :: inp.data.toList.drop 1 := by
    conv => lhs; rw [← List.drop_zero (l := inp.data.toList), List.drop_eq_getElem_cons h0]
  rw [e, List.map_cons]
  congr 1
  · have hz : (0 : Int).toNat < inp.size := by simp; omega
    unfold bt
    rw [dif_pos hz]
    rfl
  · congr 1
    rw [ByteArray.data_extract, Array.toList_extract, List.extract_eq_take_drop]
    rw [List.take_of_length_le]
    rw [List.length_drop, Array.length_toList]
    exact Nat.le_refl _

theorem echo_loop : ∀ (n : Nat) (inp : ByteArray) (u : Int) (out : List Int) (st k : Nat), inp.size = n → n ≤ 100 → out.length + n ≤ 100 → st + 9 * n + 7 ≤ 2000 → 9 * n + 8 ≤ k →
    loopF [echoF] 2000 k st ⟨[u], inp, out, [⟨echoF, 0, []⟩], 0⟩ = some (1, out ++ bytesOf inp, st + 9 * n + 7) := by
  intro n
  induction n with
  | zero =>
    intro inp u out st k hs _ _ hst hk
    obtain ⟨k', rfl⟩ : ∃ k', k = (k' + 1) + 7 := ⟨k - 8, by omega⟩
    rw [loop_steps _ _ 7 _ _ _ _ (echo_end u inp out hs) (by omega), loop_end _ _ _ _ _ (by show (1 : Int) ≠ 0; decide)]
    have : bytesOf inp = [] := by
      unfold bytesOf
      have : inp.data.toList = [] := by
        apply List.length_eq_zero_iff.1
        exact Array.length_toList.trans hs
      rw [this]; rfl
    rw [this]
    simp
  | succ n ih =>
    intro inp u out st k hs hn ho hst hk
    obtain ⟨k', rfl⟩ : ∃ k', k = k' + 9 := ⟨k - 9, by omega⟩
    have hb := bt_range inp 0
    rw [loop_steps _ _ 9 _ _ _ _ (echo_round u inp out (by omega) (by omega) _ rfl hb.1 hb.2) (by omega)]
    have hx : (inp.extract 1 inp.size).size = n := by simp; omega
    rw [ih _ _ _ _ _ hx (by omega) (by simp; omega) (by omega) (by omega)]
    rw [bytes_step inp (by omega), Int.emod_eq_of_lt hb.1 hb.2]
    simp
    omega
end Go.Proofs.Ytlngcolnjgloaaa
