/- The walk of the statement FlowReach. Conditions: none beyond the row's reach. -/
import Derived.Test.YtnlapancooecjaaOro
import Derived.Test.YtnlapancooecjaaFrw
namespace Go.Proofs.Ytnlapancooecjaa
open Go.RowKit Go.Proofs.YtnlapancooecjaaW.PrintWords
set_option linter.unusedVariables false
set_option linter.unusedSimpArgs false

theorem list_loop (xs : List Int) (hl : xs.length ≤ 100000) (d : Nat) : ∀ i : Nat, xs.length - i = d → i ≤ xs.length → ∃ k, PFlowReach.seedcornref26_List.l0 k xs xs i = some true := by
  induction d with
  | zero =>
    intro i h h'
    refine ⟨1, ?_⟩
    rw [PFlowReach.seedcornref26_List.l0, if_neg (by omega)]
  | succ d ih =>
    intro i h h'
    obtain ⟨k, hk⟩ := ih (i + 1) (by omega) (by omega)
    refine ⟨k + 1, ?_⟩
    rw [PFlowReach.seedcornref26_List.l0, if_pos (by omega), if_pos (by omega), if_pos (by omega), if_pos rfl, wrap_succ i (by omega)]
    exact hk
theorem list_same (xs : List Int) (hl : xs.length ≤ 100000) : ∃ k, PFlowReach.seedcornref26_List.f k xs xs = some true := by
  obtain ⟨k, hk⟩ := list_loop xs hl _ 0 rfl (by omega)
  refine ⟨k, ?_⟩
  rw [PFlowReach.seedcornref26_List.f, if_pos rfl]
  exact hk
theorem reach_ref (next : List (List Int)) (hl : ∀ b, (succs next b).length ≤ 400) (hn : next.length ≤ 100) : ∃ k, PFlowMust.seedcornref26_Reach.f k next = some (reachF next) := by
  obtain ⟨r1, ⟨K1, h1⟩, F1⟩ := without_any next (-1) hl hn
  refine ⟨K1, ?_⟩
  have e1 := h1 K1 (by omega)
  simp only at e1
  unfold PFlowMust.seedcornref26_Reach.f
  rw [e1]
  simp only [Option.bind_some]
  congr 1
  apply List.ext_getElem?
  intro v
  by_cases hv : v < next.length
  · have a1 : mk r1 v ↔ mk (reachF next) v := by rw [F1.2, reach_mk]
    unfold mk at a1
    rw [List.getElem?_eq_getElem (by rw [F1.1]; exact hv), List.getElem?_eq_getElem (by rw [reachF_len]; exact hv)] at a1 ⊢
    simp only [Option.some.injEq] at a1 ⊢
    exact Bool.eq_iff_iff.2 a1
  · rw [List.getElem?_eq_none (by rw [F1.1]; omega), List.getElem?_eq_none (by rw [reachF_len]; omega)]
set_option maxHeartbeats 4000000 in
theorem flowReach_any (w : World) (next : List (List Int)) (A : Option Addr) (c : Nat) (hc : next.length ≤ c) (hC : (Kd.slice 3 (Kd.int .i64)).C w A next.length next) (hsz : next.length * 24 ≤ 140737488351232)
    (hlen : ∀ b, (succs next b).length * 8 ≤ 140737488351232) : Calls Try.prog 3 #[.slice A next.length c] w (BoolPost w true) := by
  obtain ⟨s, k1, hs, hsm⟩ := small_any next 100 400 (by omega) (by omega) hlen hsz
  have HC := Lib.hid hC
  have HS := Aside0.mk hs
  cases s with
  | false =>
    clear hC hs hsm hlen
    go_enter Try.func3, Try.ntmps3
    go_wp2_with fail
    refine (awake_any w).mono ?_
    rintro e w1 ⟨rfl, hB1⟩
    have HB1 := Lib.hid hB1
    clear hB1
    go_wp2_with fail
    refine (PFlowMust.seedcornref26_Small.calls k1 A c next 100 400 false w1 (Kd.C_below HC.out HB1.out) hc HS.out).mono ?_
    rintro e w2 ⟨rfl, ⟨n2, rfl⟩⟩
    go_wp2_with fail
    go_ret
    exact ⟨rfl, pw_below_drewN HB1.out n2⟩
  | true =>
    obtain ⟨h100, hM⟩ := hsm rfl
    have h100' : next.length ≤ 100 := by omega
    have hM' : ∀ b, (succs next b).length ≤ 400 := fun b => by have := hM b; omega
    obtain ⟨k2, hk2⟩ := reach_ref next hM' h100'
    obtain ⟨k3, hk3⟩ := list_same (orderF next) (by have := orderF_len next; omega)
    have HR := Aside0.mk hk2
    have HL := Aside0.mk hk3
    have HLEN := Lib.hid hlen
    clear hC hs hsm hlen hk2 hM hM' hk3 h100
    go_enter Try.func3, Try.ntmps3
    go_wp2_with fail
    refine (awake_any w).mono ?_
    rintro e w1 ⟨rfl, hB1⟩
    have HB1 := Lib.hid hB1
    clear hB1
    go_wp2_with fail
    refine (PFlowMust.seedcornref26_Small.calls k1 A c next 100 400 true w1 (Kd.C_below HC.out HB1.out) hc HS.out).mono ?_
    rintro e w2 ⟨rfl, ⟨n2, hn2⟩⟩
    have HB2 := Lib.hid (show Below w.heap.size w w2 by rw [hn2]; exact pw_below_drewN HB1.out n2)
    clear hn2
    go_wp2_with fail
    refine (reach_any w2 next A c hc (Kd.C_below HC.out HB2.out) hsz).mono ?_
    rintro e w3 ⟨v1, rfl, hR1, hB3⟩
    obtain ⟨A1, c1, rfl, hcell1⟩ := bool_cell hR1
    rw [reachF_len] at hcell1 ⊢
    have HB3 := Lib.hid (below_then HB2.out HB2.out.size hB3)
    have HCE1 := Lib.hid hcell1
    clear hB3 hR1 hcell1
    go_wp2_with fail
    refine (PFlowMust.seedcornref26_Reach.calls k2 A c next (reachF next) w3 (Kd.C_below HC.out HB3.out) hc HR.out).mono ?_
    rintro e w4 ⟨v2, rfl, hR2, hB4⟩
    obtain ⟨A2, c2, rfl, hcell2⟩ := bool_cell hR2
    rw [reachF_len] at hcell2 ⊢
    have HCE2 := Lib.hid hcell2
    have HCE3 := Lib.hid (show ∀ b, b < next.length → ∃ ad, A1 = some ad ∧ w4.cell? (ad.add b) = some (.bool ((reachF next).getD b false)) from fun b hb => by
      obtain ⟨ad, e, h⟩ := HCE1.out b hb
      exact ⟨ad, e, pw_cell_below hB4 h⟩)
    have HB4 := Lib.hid (below_then HB3.out HB3.out.size hB4)
    clear hB4 hR2 hcell2 HCE1
    go_wp2_with fail
    go_loopw [5] (fun vi ws => ∃ i : Nat, i ≤ next.length ∧ vi = .int .i64 i ∧ Below w4.heap.size w4 ws) (fun vi _ => next.length - (intOf vi).toNat)
    case atStart => exact ⟨0, Nat.zero_le _, rfl, Below.refl _ _⟩
    case round =>
      obtain ⟨i, hi, rfl, hBi⟩ := hrel
      by_cases hlt : i < next.length
      · have d1 : decide ((i : Int) < next.length) = true := decide_eq_true (by omega)
        obtain ⟨ad1, rfl, q1⟩ := HCE3.out i hlt
        obtain ⟨ad2, rfl, q2⟩ := HCE2.out i hlt
        obtain ⟨x, hx⟩ : ∃ x, x = (reachF next).getD i false := ⟨_, rfl⟩
        rw [← hx] at q1 q2
        have p1 := pw_cell_below hBi q1
        have p2 := pw_cell_below hBi q2
        have HBI := Lib.hid hBi
        have i1 : (0 : Int) ≤ i := by omega
        have i2 : (i : Int) < next.length := by omega
        clear q1 q2 hx hBi
        go_wp2_with fail
        go_quiet (fail)
        generalize hq_ : World.drewN wr _ = wq
        have HBQ := Lib.hid (show Below w4.heap.size w4 wq by rw [← hq_]; exact pw_below_drewN HBI.out _)
        clear hq_ HBI p1 p2
        cases x <;> (
          go_wp2_with fail
          go_roundw
          case rel => exact ⟨i + 1, by omega, by go_num, HBQ.out⟩
          case measure => simp [intOf]; omega)
      · have d1 : decide ((i : Int) < next.length) = false := decide_eq_false (by omega)
        have HBI := Lib.hid (below_then HB4.out HB4.out.size hBi)
        obtain ⟨wl, rfl⟩ : ∃ W : World, W = wr := ⟨_, rfl⟩
        clear hBi HCE2 HCE3
        go_wp2_with fail
        refine (order_any wl next A c hc (Kd.C_below HC.out HBI.out) hsz).mono ?_
        rintro e w5 ⟨v3, rfl, hR3, hB5⟩
        obtain ⟨A3, c3, rfl, hc3, hC3⟩ := Kd.R_reads hR3
        have HC3 := Lib.hid hC3
        have HB5 := Lib.hid (below_then HBI.out HBI.out.size hB5)
        clear hR3 hC3 hB5
        go_wp2_with fail
        refine (refOrder_any w5 next A c hc (Kd.C_below HC.out HB5.out) (by omega) HLEN.out).mono ?_
        rintro e w6 ⟨v4, rfl, hR4, hB6⟩
        obtain ⟨A4, c4, rfl, hc4, hC4⟩ := Kd.R_reads hR4
        have HC4 := Lib.hid hC4
        have HC5 := Lib.hid (Kd.C_below HC3.out hB6)
        have HB6 := Lib.hid (below_then HB5.out HB5.out.size hB6)
        clear hR4 hC4 hB6 HC3
        go_wp2_with fail
        refine (PFlowReach.seedcornref26_List.calls k3 A3 c3 (orderF next) A4 c4 (orderF next) true w6 HC5.out hc3 HC4.out hc4 HL.out).mono ?_
        rintro e w7 ⟨rfl, ⟨n7, hn7⟩⟩
        have HB7 := Lib.hid (show Below w.heap.size w w7 by rw [hn7]; exact pw_below_drewN HB6.out n7)
        clear hn7
        go_wp2_with fail
        go_ret
        exact ⟨rfl, HB7.out⟩

theorem flowReach_row (W : World) {a0 : Option Addr} {len0 cap0 : Nat} (next : List (List Int)) (hK : (Kd.slice 28 (Kd.slice 3 (Kd.int .i64))).K W next (Value.slice a0 len0 cap0).cells.toList)
    (ok : next.length * 24 ≤ reachBytes ∧ ∀ x ∈ next, x.length * 8 ≤ reachBytes ∧ ∀ y ∈ x, (Lit.int .i64 y).wf = true) :
    Calls Try.prog 3 #[.slice a0 len0 cap0] W (BoolPost W true) := by
  obtain ⟨rfl, hc, hC, hsz, hlen⟩ := graph_in hK ok
  exact flowReach_any W next a0 cap0 hc hC hsz hlen
end Go.Proofs.Ytnlapancooecjaa
