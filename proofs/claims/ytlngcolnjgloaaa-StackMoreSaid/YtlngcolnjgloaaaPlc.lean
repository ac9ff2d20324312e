/- The runs of StackPlaces' programs. Conditions: words are words. -/
import Derived.Test.YtlngcolnjgloaaaStp
namespace Go.Proofs.Ytlngcolnjgloaaa
set_option linter.unusedVariables false
set_option linter.unusedSimpArgs false
open Go.RowKit Go.Proofs.YtlngcolnjgloaaaW.PrintWords PStackRuns

def plcS (i v n : Int) : List S25 := [⟨1, 0, 0, i⟩, ⟨1, 0, 0, v⟩, ⟨5, 2, n, 0⟩]
def plcL (i n : Int) : List S25 := [⟨1, 0, 0, i⟩, ⟨4, 2, n, 0⟩, ⟨13, 0, 0, 0⟩, ⟨11, 0, 0, 0⟩]
def plcF (i v n : Int) : S28 := ⟨0, 0, 0, false, [⟨1, 0, 0, i⟩, ⟨1, 0, 0, v⟩, ⟨5, 2, n, 0⟩, ⟨1, 0, 0, i⟩, ⟨4, 2, n, 0⟩, ⟨13, 0, 0, 0⟩, ⟨11, 0, 0, 0⟩]⟩
def plcG (i n : Int) : S28 := ⟨0, 0, 0, false, plcL i n⟩

section
variable (i v n : Int) (hi : 0 ≤ i) (hi2 : i < 4294967296) (hn : 1 ≤ n) (hn2 : n ≤ 4096) (ws : List Int) (hw : (ws.length : Int) = n + 2)
include hi hi2 hn hn2
include hw in
theorem plc_store (hin : i < n) : stepsF [plcF i v n] 3 ⟨ws, ⟨#[]⟩, [], [⟨plcF i v n, 0, []⟩], 0⟩ = some ⟨ws.set (2 + i).toNat v, ⟨#[]⟩, [], [⟨plcF i v n, 3, []⟩], 0⟩ := by
  have h1 : word i := ⟨hi, hi2⟩
  have h2 : 0 ≤ n := by omega
  have h3 : 2 + i < (ws.length : Int) := by omega
  simp [stepsF, stepF, doF, plcF, rd_T25, rdOf, h1, h2, h3, hin, hn2]

theorem plc_store_out (hin : n ≤ i) : stepsF [plcF i v n] 3 ⟨ws, ⟨#[]⟩, [], [⟨plcF i v n, 0, []⟩], 0⟩ = some ⟨ws, ⟨#[]⟩, [], [⟨plcF i v n, 3, []⟩], 3⟩ := by
  have h1 : word i := ⟨hi, hi2⟩
  have h2 : 0 ≤ n := by omega
  have h3 : ¬ i < n := by omega
  simp [stepsF, stepF, doF, plcF, rd_T25, rdOf, h1, h2, h3, hn2]

include hw in
theorem plc_load (hin : i < n) : stepsF [plcF i v n] 4 ⟨ws, ⟨#[]⟩, [], [⟨plcF i v n, 3, []⟩], 0⟩ = some ⟨ws, ⟨#[]⟩, [rd ws (2 + i) % 256], [], 1⟩ := by
  have h1 : word i := ⟨hi, hi2⟩
  have h2 : 0 ≤ n := by omega
  have h3 : 2 + i < (ws.length : Int) := by omega
  simp [stepsF, stepF, doF, plcF, rd_T25, rdOf, h1, h2, h3, hin, hn2]

include hw in
theorem plc_load0 (hin : i < n) : stepsF [plcG i n] 4 ⟨ws, ⟨#[]⟩, [], [⟨plcG i n, 0, []⟩], 0⟩ = some ⟨ws, ⟨#[]⟩, [rd ws (2 + i) % 256], [], 1⟩ := by
  have h1 : word i := ⟨hi, hi2⟩
  have h2 : 0 ≤ n := by omega
  have h3 : 2 + i < (ws.length : Int) := by omega
  simp [stepsF, stepF, doF, plcG, plcL, rd_T25, rdOf, h1, h2, h3, hin, hn2]

theorem plc_load_out (hin : n ≤ i) : stepsF [plcG i n] 2 ⟨ws, ⟨#[]⟩, [], [⟨plcG i n, 0, []⟩], 0⟩ = some ⟨ws, ⟨#[]⟩, [], [⟨plcG i n, 2, []⟩], 3⟩ := by
  have h1 : word i := ⟨hi, hi2⟩
  have h2 : 0 ≤ n := by omega
  have h3 : ¬ i < n := by omega
  simp [stepsF, stepF, doF, plcG, plcL, rd_T25, rdOf, h1, h2, h3, hn2]
end

theorem call_one (f : S28) (h1 : f.f1 = 0) (h2 : f.f2 = 0) (sw : Int) (inp : ByteArray) : callF [f] (([f].length : Int) - 1) [] ⟨List.replicate sw.toNat 0, inp, [], [], 0⟩ = some ⟨List.replicate sw.toNat 0, inp, [], [⟨f, 0, []⟩], 0⟩ := by
  unfold callF
  have : rd_T28 [f] (([f].length : Int) - 1) = f := rfl
  rw [this, h1, h2, if_pos ⟨by simp, by simp, by decide, by decide, by omega⟩]
  simp [layF, splice]

theorem plc_run_in (i v : Int) (n : Nat) (hi : 0 ≤ i) (hi2 : i < 4294967296) (hn : 1 ≤ n) (hn2 : n ≤ 4096) (hin : i < n) (h0 : 0 ≤ v) (h1 : v < 256) (K : Nat) (hK : 100 ≤ K) :
    runF ((n + 2 : Nat) : Int) [plcF i v n] ⟨#[]⟩ 100 K = some (1, [v], 7) ∧ runF ((n + 2 : Nat) : Int) [plcG i n] ⟨#[]⟩ 100 K = some (1, [0], 4) := by
  have hw : ((List.replicate ((n + 2 : Nat) : Int).toNat (0 : Int)).length : Int) = (n : Int) + 2 := by rw [List.length_replicate]; omega
  have hl : (2 + i).toNat < n + 2 := by omega
  constructor
  · obtain ⟨k, rfl⟩ : ∃ k, K = ((k + 1) + 4) + 3 := ⟨K - 8, by omega⟩
    have h2 := plc_load i v n hi hi2 (by omega) (by omega) ((List.replicate ((n + 2 : Nat) : Int).toNat (0 : Int)).set (2 + i).toNat v) (by rw [List.length_set]; exact hw) hin
    have hr : rd ((List.replicate ((n + 2 : Nat) : Int).toNat (0 : Int)).set (2 + i).toNat v) (2 + i) = v := by
      unfold rd
      rw [List.getD_eq_getElem?_getD, List.getElem?_set_self (by rw [List.length_replicate]; omega)]
      rfl
    rw [hr, Int.emod_eq_of_lt h0 h1] at h2
    unfold runF
    rw [call_one (plcF i v n) rfl rfl, Option.bind_some, loop_steps _ _ 3 _ _ _ _ (plc_store i v n hi hi2 (by omega) (by omega) _ hw hin) (by omega), loop_steps _ _ 4 _ _ _ _ h2 (by omega), loop_end _ _ _ _ _ (by show (1 : Int) ≠ 0; decide)]
  · obtain ⟨k, rfl⟩ : ∃ k, K = (k + 1) + 4 := ⟨K - 5, by omega⟩
    have h2 := plc_load0 i n hi hi2 (by omega) (by omega) (List.replicate ((n + 2 : Nat) : Int).toNat (0 : Int)) hw hin
    have hr : rd (List.replicate ((n + 2 : Nat) : Int).toNat (0 : Int)) (2 + i) = 0 := by
      unfold rd
      rw [List.getD_eq_getElem?_getD, List.getElem?_replicate]
      split <;> rfl
    rw [hr] at h2
    unfold runF
    rw [call_one (plcG i n) rfl rfl, Option.bind_some, loop_steps _ _ 4 _ _ _ _ h2 (by omega), loop_end _ _ _ _ _ (by show (1 : Int) ≠ 0; decide)]
    rfl

theorem plc_run_out (i v : Int) (n : Nat) (hi : 0 ≤ i) (hi2 : i < 4294967296) (hn : 1 ≤ n) (hn2 : n ≤ 4096) (hin : n ≤ i) (K : Nat) (hK : 100 ≤ K) :
    runF ((n + 2 : Nat) : Int) [plcF i v n] ⟨#[]⟩ 100 K = some (3, [], 3) ∧ runF ((n + 2 : Nat) : Int) [plcG i n] ⟨#[]⟩ 100 K = some (3, [], 2) := by
  constructor
  · obtain ⟨k, rfl⟩ : ∃ k, K = (k + 1) + 3 := ⟨K - 4, by omega⟩
    unfold runF
    rw [call_one (plcF i v n) rfl rfl, Option.bind_some, loop_steps _ _ 3 _ _ _ _ (plc_store_out i v n hi hi2 (by omega) (by omega) _ hin) (by omega), loop_end _ _ _ _ _ (by show (3 : Int) ≠ 0; decide)]
  · obtain ⟨k, rfl⟩ : ∃ k, K = (k + 1) + 2 := ⟨K - 3, by omega⟩
    unfold runF
    rw [call_one (plcG i n) rfl rfl, Option.bind_some, loop_steps _ _ 2 _ _ _ _ (plc_load_out i n hi hi2 (by omega) (by omega) _ hin) (by omega), loop_end _ _ _ _ _ (by show (3 : Int) ≠ 0; decide)]
end Go.Proofs.Ytlngcolnjgloaaa
