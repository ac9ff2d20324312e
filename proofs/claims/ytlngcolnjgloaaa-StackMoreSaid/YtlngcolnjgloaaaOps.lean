/- A stack program that came in; its size. Conditions: none beyond the row's reach. -/
import Derived.Test.YtlngcolnjgloaaaOpn
import Derived.Test.YtlngcolnjgloaaaRrt
import Derived.Test.YtlngcolnjgloaaaPStackRunsx5
import Derived.Test.YtlngcolnjgloaaaSnd
namespace Go.Proofs.Ytlngcolnjgloaaa
set_option linter.unusedVariables false
set_option linter.unusedSimpArgs false
open Go.RowKit Go.Proofs.YtlngcolnjgloaaaW.PrintWords PStackRuns Go.Deep

def ok25 (x : S25) : Prop := word x.f3
def ok28 (x : S28) : Prop := x.f4.length * 32 ≤ 140737488351232 ∧ ∀ y ∈ x.f4, ok25 y
abbrev kS : Kd (Int × List S28) := Kd.iso (Kd.pair (Kd.int .i64) (Kd.slice 28 k28)) (fun x : Int × List S28 => x)
def okS (x : Int × List S28) : Prop := x.2.length * 56 ≤ 140737488351232 ∧ ∀ y ∈ x.2, ok28 y

theorem OpnAt.zero {P : Program} {α : Type} {t : TypeId} {d : Kd α} {ok : α → Prop} : OpnAt P 0 t d ok := by
  intro H enc W fuel cs x hf h
  obtain rfl : fuel = 0 := by omega
  simp [DataW.trod] at h

theorem u32_word {y : Int} (h : (Lit.int .u32 y).wf = true) : word y := by
  simp only [Lit.wf, Bool.and_eq_true, decide_eq_true_eq] at h
  have h1 : IntKind.u32.min = 0 := rfl
  have h2 : IntKind.u32.max = 4294967295 := rfl
  exact ⟨by omega, by omega⟩

theorem opn25 : ∀ N, OpnAt Try.prog N 25 k25 ok25
  | 0 => OpnAt.zero
  | N + 1 => (OpnAt.struct (fun x : S25 => (x.f0, x.f1, x.f2, x.f3)) (fun v => ⟨v.1, v.2.1, v.2.2.1, v.2.2.2⟩) (fun _ => rfl) Try.underlying25 (by kernel_rfl)
      (OpnF.cons rfl (by kernel_rfl) (OpnAt.int Try.underlying3) (OpnF.cons rfl (by kernel_rfl) (OpnAt.int Try.underlying3) (OpnF.cons rfl (by kernel_rfl) (OpnAt.int Try.underlying3) (OpnF.last rfl (by kernel_rfl) (OpnAt.int Try.underlying22)))))).imp (fun v h => u32_word h.2.2.2)

theorem opn28 : ∀ N, OpnAt Try.prog N 28 k28 ok28
  | 0 => OpnAt.zero
  | N + 1 => (OpnAt.struct (fun x : S28 => (x.f0, x.f1, x.f2, x.f3, x.f4)) (fun v => ⟨v.1, v.2.1, v.2.2.1, v.2.2.2.1, v.2.2.2.2⟩) (fun _ => rfl) Try.underlying28 (by kernel_rfl)
      (OpnF.cons rfl (by kernel_rfl) (OpnAt.int Try.underlying3) (OpnF.cons rfl (by kernel_rfl) (OpnAt.int Try.underlying3) (OpnF.cons rfl (by kernel_rfl) (OpnAt.int Try.underlying3) (OpnF.cons rfl (by kernel_rfl) (OpnAt.bool Try.underlying4) (OpnF.last rfl (by kernel_rfl) (OpnAt.slice (bytes := 32) Try.underlying26 (by kernel_rfl) (by kernel_rfl) (opn25 N)))))))).imp (fun v h => h.2.2.2.2)

theorem opn31 : ∀ N, OpnAt Try.prog N 31 kS okS
  | 0 => OpnAt.zero
  | N + 1 => (OpnAt.struct (fun x : Int × List S28 => x) (fun v => v) (fun _ => rfl) Try.underlying31 (by kernel_rfl)
      (OpnF.cons rfl (by kernel_rfl) (OpnAt.int Try.underlying3) (OpnF.last rfl (by kernel_rfl) (OpnAt.slice (bytes := 56) Try.underlying29 (by kernel_rfl) (by kernel_rfl) (opn28 N))))).imp (fun v h => h.2)

theorem opnS (H : Type) (enc : TypeId × Value → H) (W : World) (fuel : Nat) (cs : List Value) (x : DataW H × List MemPlace) (h : DataW.trod enc Try.prog W 0 (fun _ => true) true fuel 31 cs = some x) (hw : ∀ n ∈ x.1.weights Try.prog 31, n ≤ reachBytes) : ∃ v, kS.K W v cs ∧ okS v :=
  opn31 fuel H enc W fuel cs x (Nat.le_refl _) h hw

theorem S_in {W : World} {cs : Array Value} {x : Int × List S28} (h : kS.K W x (Value.agg cs).cells.toList) : ∃ A c, cs = #[.int .i64 x.1, .slice A x.2.length c] ∧ x.2.length ≤ c ∧ k28.C W A x.2.length x.2 := by
  obtain ⟨c0, c1, e, h0, A, c, h1, hl, hC⟩ := h
  refine ⟨A, c, ?_, hl, hC⟩
  have h0' : c0 = [.int .i64 x.1] := h0
  have h1' : c1 = [.slice A x.2.length c] := h1
  rw [h0', h1'] at e
  exact Array.toList_inj.1 e

/-! ### Few -/
def szs : List S28 → Nat
  | [] => 0
  | x :: l => x.f4.length + szs l
theorem szs_mem : ∀ (l : List S28) (x : S28), x ∈ l → x.f4.length ≤ szs l := by
  intro l
  induction l with
  | nil => intro x h; cases h
  | cons y l ih =>
    intro x h
    rcases List.mem_cons.1 h with rfl | h
    · simp only [szs]; omega
    · have := ih x h; simp only [szs]; omega
theorem szs_le (B : Nat) : ∀ (l : List S28), (∀ x ∈ l, x.f4.length ≤ B) → szs l ≤ l.length * B := by
  intro l
  induction l with
  | nil => intro _; exact Nat.zero_le _
  | cons y l ih =>
    intro h
    have h1 := h y (by simp)
    have h2 := ih (fun x hx => h x (by simp [hx]))
    simp only [szs, List.length_cons, Nat.succ_mul]
    omega

theorem size_l (sw : Int) (fs : List S28) (hf : szs fs < 1000000000000000000) (hl : fs.length ≤ 1000000) : ∀ (d k j : Nat) (acc : Nat), j + d = fs.length → acc + szs (fs.drop j) = szs fs →
    seedcornref20_Size.l0 (k + d + 1) (acc : Int) (j : Int) sw fs = some (szs fs : Int) := by
  intro d
  induction d with
  | zero =>
    intro k j acc hj ha
    rw [show k + 0 + 1 = k + 1 from rfl]
    simp only [seedcornref20_Size.l0]
    rw [if_neg (by omega)]
    rw [List.drop_of_length_le (by omega)] at ha
    simp only [szs] at ha
    rw [← ha]
    rfl
  | succ d ih =>
    intro k j acc hj ha
    rw [show k + (d + 1) + 1 = (k + d + 1) + 1 by omega]
    have hjl : j < fs.length := by omega
    rw [List.drop_eq_getElem_cons hjl] at ha
    simp only [szs] at ha
    have hr : rd_T28 fs (j : Int) = fs[j] := by simp [rd_T28, rdOf, List.getD_eq_getElem?_getD, hjl]
    simp only [seedcornref20_Size.l0]
    rw [if_pos (by omega), if_pos (by omega), hr]
    rw [show wrap64 ((acc : Int) + (fs[j].f4.length : Int)) = ((acc + fs[j].f4.length : Nat) : Int) by rw [IntWalk.wrap64_in _ (by omega)]; omega]
    rw [show wrap64 ((j : Int) + 1) = ((j + 1 : Nat) : Int) by rw [IntWalk.wrap64_in _ (by omega)]; omega]
    exact ih k (j + 1) (acc + fs[j].f4.length) (by omega) (by omega)

theorem few_f (sw : Int) (fs : List S28) (hok : okS (sw, fs)) (most : Int) : ∃ k r, seedcornref20_Few.f k sw fs most = some r ∧ (r = true → fs.length ≤ 70 ∧ ∀ f : Nat, f < fs.length → ((rd_T28 fs (f : Int)).f4.length : Int) ≤ most) := by
  by_cases h : fs.length ≤ 70
  · have hs : szs fs ≤ fs.length * 4398046511104 := szs_le 4398046511104 fs (fun x hx => by have := (hok.2 x hx).1; omega)
    have hs' : szs fs ≤ 70 * 4398046511104 := Nat.le_trans hs (Nat.mul_le_mul_right _ h)
    have := size_l sw fs (by omega) (by omega) fs.length 0 0 0 (by omega) (by simp)
    refine ⟨fs.length + 1, decide ((szs fs : Int) ≤ most), ?_, fun hd => ⟨h, fun f hf => ?_⟩⟩
    · unfold seedcornref20_Few.f seedcornref20_Size.f
      rw [if_pos (by omega), show fs.length + 1 = 0 + fs.length + 1 by omega]
      rw [show ((0 : Nat) : Int) = 0 from rfl] at this
      rw [this, Option.bind_some]
    · have hd' : (szs fs : Int) ≤ most := of_decide_eq_true hd
      have hm : rd_T28 fs (f : Int) ∈ fs := by
        have : rd_T28 fs (f : Int) = fs[f] := by simp [rd_T28, rdOf, List.getD_eq_getElem?_getD, hf]
        rw [this]
        exact List.getElem_mem hf
      have := szs_mem fs _ hm
      omega
  · refine ⟨1, false, ?_, fun h => by cases h⟩
    unfold seedcornref20_Few.f
    rw [if_neg (by omega)]

theorem few_any (W : World) (sw : Int) (A : Option Addr) (fs : List S28) (c : Nat) (hC : k28.C W A fs.length fs) (hc : fs.length ≤ c) (hok : okS (sw, fs)) (most : Int) :
    Calls Try.prog 14 #[.agg #[.int .i64 sw, .slice A fs.length c], .int .i64 most] W (RfPost W (fs.length ≤ 70 ∧ ∀ f : Nat, f < fs.length → ((rd_T28 fs (f : Int)).f4.length : Int) ≤ most)) := by
  obtain ⟨k, r, h1, h2⟩ := few_f sw fs hok most
  refine (seedcornref20_Few.calls k sw A c fs most r W hC hc h1).mono ?_
  rintro e w' ⟨rfl, hb⟩
  exact ⟨r, rfl, h2, hb⟩

theorem prg_of {sw : Int} {fs : List S28} (hok : okS (sw, fs)) (h : rightP sw fs) : Prg sw.toNat fs := by
  refine ⟨by rw [Int.toNat_of_nonneg h.1]; exact h, fun i hi x hx => ?_⟩
  have hm : rd_T28 fs (i : Int) ∈ fs := by
    have : rd_T28 fs (i : Int) = fs[i] := by simp [rd_T28, rdOf, List.getD_eq_getElem?_getD, hi]
    rw [this]
    exact List.getElem_mem hi
  exact (hok.2 _ hm).2 x hx
end Go.Proofs.Ytlngcolnjgloaaa
