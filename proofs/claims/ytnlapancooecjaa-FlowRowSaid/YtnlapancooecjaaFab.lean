/- The walk of the statement FlowAbove. Conditions: none beyond the row's reach. -/
import Derived.Test.YtnlapancooecjaaAbr
namespace Go.Proofs.Ytnlapancooecjaa
open Go.RowKit Go.Proofs.YtnlapancooecjaaW.PrintWords
set_option linter.unusedVariables false
set_option linter.unusedSimpArgs false

theorem above_both (next : List (List Int)) (hn : next.length ≤ 100) (hl : ∀ b, (succs next b).length ≤ 400) : ∃ r k, aboveF 20000 next = some r ∧ PFlowAbove.seedcornref26_Above.f k next = some r ∧ r.length ≤ 100 := by
  rcases Nat.eq_zero_or_pos next.length with h | h
  · obtain rfl : next = [] := List.eq_nil_of_length_eq_zero h
    have hN : Near ([] : List (List Int)) [] := ⟨rfl, fun b hb => by simp at hb, fun b hb => by simp at hb⟩
    obtain ⟨k, hk⟩ := above_ref hN hn hl
    refine ⟨[], k, ?_, hk, by simp⟩
    have e : orderF ([] : List (List Int)) = [] := by decide +kernel
    unfold aboveF
    rw [e]
    rfl
  · obtain ⟨r, hr, hd⟩ := aboveF_ok next h hn
    have hN := near_ok next h r hd
    obtain ⟨k, hk⟩ := above_ref hN hn hl
    exact ⟨r, k, hr, hk, by rw [hN.len]; exact hn⟩

set_option maxHeartbeats 4000000 in
theorem flowAbove_any (w : World) (next : List (List Int)) (A : Option Addr) (c : Nat) (hc : next.length ≤ c) (hC : (Kd.slice 3 (Kd.int .i64)).C w A next.length next) (hsz : next.length * 24 ≤ 140737488351232)
    (hlen : ∀ b, (succs next b).length * 8 ≤ 140737488351232) : Calls Try.prog 4 #[.slice A next.length c] w (BoolPost w true) := by
  obtain ⟨s, k1, hs, hsm⟩ := small_any next 40 150 (by omega) (by omega) hlen hsz
  have HC := Lib.hid hC
  have HS := Aside0.mk hs
  cases s with
  | false =>
    clear hC hs hsm hlen
    go_enter Try.func4, Try.ntmps4
    go_wp2_with fail
    refine (awake_any w).mono ?_
    rintro e w1 ⟨rfl, hB1⟩
    have HB1 := Lib.hid hB1
    clear hB1
    go_wp2_with fail
    refine (PFlowMust.seedcornref26_Small.calls k1 A c next 40 150 false w1 (Kd.C_below HC.out HB1.out) hc HS.out).mono ?_
    rintro e w2 ⟨rfl, ⟨n2, rfl⟩⟩
    go_wp2_with fail
    go_ret
    exact ⟨rfl, pw_below_drewN HB1.out n2⟩
  | true =>
    obtain ⟨h40, hM⟩ := hsm rfl
    have h100 : next.length ≤ 100 := by omega
    have hM' : ∀ b, (succs next b).length ≤ 400 := fun b => by have := hM b; omega
    obtain ⟨r, k2, hr1, hr2, hrl⟩ := above_both next h100 hM'
    obtain ⟨k3, hk3⟩ := list_same r (by omega)
    have HR1 := Aside0.mk hr1
    have HR2 := Aside0.mk hr2
    have HL := Aside0.mk hk3
    have HM := Lib.hid hM'
    clear hC hs hsm hlen hM hM' hk3 hr1 hr2 hrl h40
    go_enter Try.func4, Try.ntmps4
    go_wp2_with fail
    refine (awake_any w).mono ?_
    rintro e w1 ⟨rfl, hB1⟩
    have HB1 := Lib.hid hB1
    clear hB1
    go_wp2_with fail
    refine (PFlowMust.seedcornref26_Small.calls k1 A c next 40 150 true w1 (Kd.C_below HC.out HB1.out) hc HS.out).mono ?_
    rintro e w2 ⟨rfl, ⟨n2, hn2⟩⟩
    have HB2 := Lib.hid (show Below w.heap.size w w2 by rw [hn2]; exact pw_below_drewN HB1.out n2)
    clear hn2
    go_wp2_with fail
    refine (above_any w2 next A c hc (Kd.C_below HC.out HB2.out) h100 HM.out 20000 r HR1.out).mono ?_
    rintro e w3 ⟨v3, rfl, hR3, hB3⟩
    obtain ⟨A3, c3, rfl, hc3, hC3⟩ := Kd.R_reads hR3
    have HC3 := Lib.hid hC3
    have HB3 := Lib.hid (below_then HB2.out HB2.out.size hB3)
    clear hR3 hC3 hB3
    go_wp2_with fail
    refine (PFlowAbove.seedcornref26_Above.calls k2 A c next r w3 (Kd.C_below HC.out HB3.out) hc HR2.out).mono ?_
    rintro e w4 ⟨v4, rfl, hR4, hB4⟩
    obtain ⟨A4, c4, rfl, hc4, hC4⟩ := Kd.R_reads hR4
    have HC4 := Lib.hid hC4
    have HC5 := Lib.hid (Kd.C_below HC3.out hB4)
    have HB4 := Lib.hid (below_then HB3.out HB3.out.size hB4)
    clear hR4 hC4 hB4 HC3
    go_wp2_with fail
    refine (PFlowReach.seedcornref26_List.calls k3 A3 c3 r A4 c4 r true w4 HC5.out hc3 HC4.out hc4 HL.out).mono ?_
    rintro e w7 ⟨rfl, ⟨n7, hn7⟩⟩
    have HB7 := Lib.hid (show Below w.heap.size w w7 by rw [hn7]; exact pw_below_drewN HB4.out n7)
    clear hn7
    go_wp2_with fail
    go_ret
    exact ⟨rfl, HB7.out⟩

theorem flowAbove_row (W : World) {a0 : Option Addr} {len0 cap0 : Nat} (next : List (List Int)) (hK : (Kd.slice 28 (Kd.slice 3 (Kd.int .i64))).K W next (Value.slice a0 len0 cap0).cells.toList)
    (ok : next.length * 24 ≤ reachBytes ∧ ∀ x ∈ next, x.length * 8 ≤ reachBytes ∧ ∀ y ∈ x, (Lit.int .i64 y).wf = true) :
    Calls Try.prog 4 #[.slice a0 len0 cap0] W (BoolPost W true) := by
  obtain ⟨rfl, hc, hC, hsz, hlen⟩ := graph_in hK ok
  exact flowAbove_any W next a0 cap0 hc hC hsz hlen
end Go.Proofs.Ytnlapancooecjaa
