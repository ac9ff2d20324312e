/- The reference's Small, and the walk of the statement FlowMust. Conditions: the graph's slices take at most 2^47 - 4096 bytes. -/
import Derived.Test.YtnlapancooecjaaWou
import Derived.Test.YtnlapancooecjaaAwk
import Derived.Test.YtnlapancooecjaaPFlowMustx1
import Derived.Test.YtnlapancooecjaaOpn
namespace Go.Proofs.Ytnlapancooecjaa
open Go.RowKit Go.Proofs.YtnlapancooecjaaW.PrintWords
set_option linter.unusedSimpArgs false
set_option linter.unusedVariables false

/-! ### Small -/
open PFlowMust in
theorem small_loop (next : List (List Int)) (B W : Int) (hW : W ≤ 1000) (hW0 : 0 ≤ W) (hlen : ∀ b, (succs next b).length * 8 ≤ 140737488351232) (hn : next.length * 24 ≤ 140737488351232) (d : Nat) : ∀ (i : Nat) (x : Int), next.length - i = d → i ≤ next.length → 0 ≤ x → x ≤ 1000 + 17592186044416 →
    ∃ r, Ev (fun k => seedcornref26_Small.l0 k next B W x i) r ∧ (r = true → (next.length : Int) ≤ B ∧ x ≤ W ∧ ∀ j : Nat, i ≤ j → j < next.length → x + (succs next j).length ≤ W) := by
  induction d with
  | zero =>
    intro i x hd hi h0 h1
    refine ⟨if (next.length : Int) ≤ B then decide (x ≤ W) else false, ⟨1, ?_⟩, ?_⟩
    · intro k hk
      obtain ⟨k, rfl⟩ : ∃ j, k = j + 1 := ⟨k - 1, by omega⟩
      simp only [seedcornref26_Small.l0]
      rw [if_neg (by omega)]
      split <;> rfl
    · intro hr
      split at hr
      · rename_i hB
        exact ⟨hB, of_decide_eq_true hr, fun j h1 h2 => by omega⟩
      · cases hr
  | succ d ih =>
    intro i x hd hi h0 h1
    by_cases hx : x ≤ W
    · have hli := hlen i
      obtain ⟨r, hr, hF⟩ := ih (i + 1) (x + (succs next i).length) (by omega) (by omega) (by omega) (by omega)
      refine ⟨r, Ev.step (f := fun k => seedcornref26_Small.l0 k next B W (x + (succs next i).length) ((i + 1 : Nat) : Int)) ?_ hr, ?_⟩
      · intro k
        simp only [seedcornref26_Small.l0]
        have e1 : wrap64 (x + ((rd_L1 next (i : Int)).length : Int)) = x + (succs next i).length := by
          show wrap64 (x + ((succs next i).length : Int)) = _
          unfold wrap64
          omega
        rw [if_pos (by omega), if_pos hx, if_pos (by omega), e1, wrap_succ i (by omega)]
      · intro ht
        obtain ⟨g1, g2, g3⟩ := hF ht
        refine ⟨g1, hx, ?_⟩
        intro j hj1 hj2
        rcases Nat.eq_or_lt_of_le hj1 with rfl | hlt
        · exact g2
        · have := g3 j hlt hj2
          omega
    · refine ⟨false, ⟨1, ?_⟩, by intro h; cases h⟩
      intro k hk
      obtain ⟨k, rfl⟩ : ∃ j, k = j + 1 := ⟨k - 1, by omega⟩
      simp only [seedcornref26_Small.l0]
      rw [if_pos (by omega), if_neg hx, decide_eq_false hx]
      split <;> rfl

open PFlowMust in
theorem small_any (next : List (List Int)) (B W : Int) (hW : W ≤ 1000) (hW0 : 0 ≤ W) (hlen : ∀ b, (succs next b).length * 8 ≤ 140737488351232) (hn : next.length * 24 ≤ 140737488351232) :
    ∃ r k, seedcornref26_Small.f k next B W = some r ∧ (r = true → (next.length : Int) ≤ B ∧ ∀ b, ((succs next b).length : Int) ≤ W) := by
  obtain ⟨r, hr, hF⟩ := small_loop next B W hW hW0 hlen hn _ 0 0 rfl (by omega) (by omega) (by omega)
  obtain ⟨k, hk⟩ := hr.rounds
  refine ⟨r, k, hk, ?_⟩
  intro ht
  obtain ⟨g1, g2, g3⟩ := hF ht
  refine ⟨g1, ?_⟩
  intro b
  by_cases hb : b.toNat < next.length
  · have := g3 b.toNat (by omega) hb
    have e : succs next ((b.toNat : Nat) : Int) = succs next b := by unfold succs; rw [Int.toNat_natCast]
    rw [e] at this
    omega
  · unfold succs
    rw [List.getD_eq_getElem?_getD, List.getElem?_eq_none (by omega)]
    simpa using hW0

/-! ### FlowMust -/
set_option maxHeartbeats 1000000 in
theorem flowMust_any (w : World) (next : List (List Int)) (A : Option Addr) (c : Nat) (hc : next.length ≤ c) (hC : (Kd.slice 3 (Kd.int .i64)).C w A next.length next) (hsz : next.length * 24 ≤ 140737488351232)
    (hlen : ∀ b, (succs next b).length * 8 ≤ 140737488351232) (a b : Int) : Calls Try.prog 5 #[.slice A next.length c, .int .i64 a, .int .i64 b] w (BoolPost w true) := by
  obtain ⟨s, k1, hs, hsm⟩ := small_any next 60 250 (by omega) (by omega) hlen hsz
  have HC := Lib.hid hC
  have HS := Aside0.mk hs
  cases s with
  | false =>
    clear hC hs hsm hlen
    go_enter Try.func5, Try.ntmps5
    go_wp2_with fail
    refine (awake_any w).mono ?_
    rintro e w1 ⟨rfl, hB1⟩
    have HB1 := Lib.hid hB1
    clear hB1
    go_wp2_with fail
    refine (PFlowMust.seedcornref26_Small.calls k1 A c next 60 250 false w1 (Kd.C_below HC.out HB1.out) hc HS.out).mono ?_
    rintro e w2 ⟨rfl, ⟨n2, rfl⟩⟩
    go_wp2_with fail
    go_ret
    exact ⟨rfl, pw_below_drewN HB1.out n2⟩
  | true =>
    obtain ⟨h60, hM⟩ := hsm rfl
    have h60' : next.length ≤ 60 := by omega
    have hM' : ∀ b, (succs next b).length ≤ 400 := fun b => by have := hM b; omega
    obtain ⟨k2, hk2⟩ := must_ref next a b hM' (by omega)
    have HM := Aside0.mk hk2
    clear hC hs hsm hlen hk2 hM hM'
    go_enter Try.func5, Try.ntmps5
    go_wp2_with fail
    refine (awake_any w).mono ?_
    rintro e w1 ⟨rfl, hB1⟩
    have HB1 := Lib.hid hB1
    clear hB1
    go_wp2_with fail
    refine (PFlowMust.seedcornref26_Small.calls k1 A c next 60 250 true w1 (Kd.C_below HC.out HB1.out) hc HS.out).mono ?_
    rintro e w2 ⟨rfl, ⟨n2, hn2⟩⟩
    have HB2 := Lib.hid (show Below w.heap.size w w2 by rw [hn2]; exact pw_below_drewN HB1.out n2)
    clear hn2
    go_wp2_with fail
    refine (must_any w2 next A c hc (Kd.C_below HC.out HB2.out) hsz a b).mono ?_
    rintro e w3 ⟨rfl, hB3⟩
    have HB3 := Lib.hid (below_then HB2.out HB2.out.size hB3)
    clear hB3
    go_wp2_with fail
    refine (PFlowMust.seedcornref26_Must.calls k2 A c next a b (mustF next a b) w3 (Kd.C_below HC.out HB3.out) hc HM.out).mono ?_
    rintro e w4 ⟨rfl, hB4⟩
    have HB4 := Lib.hid (below_then HB3.out HB3.out.size hB4)
    clear hB4
    go_wp2_with fail
    go_ret

    exact ⟨by simp, HB4.out⟩
end Go.Proofs.Ytnlapancooecjaa

/- The statement FlowMust's call, from a graph that came in. Conditions: none beyond the row's reach. -/
namespace Go.Proofs.Ytnlapancooecjaa
set_option linter.unusedVariables false
set_option linter.unusedSimpArgs false
open Go.RowKit Go.Proofs.YtnlapancooecjaaW.PrintWords

theorem opnRows : Opn Try.prog 22 (Kd.slice 28 (Kd.slice 3 (Kd.int .i64))) (fun xs => xs.length * 24 ≤ reachBytes ∧ ∀ x ∈ xs, x.length * 8 ≤ reachBytes ∧ ∀ y ∈ x, (Lit.int .i64 y).wf = true) :=
  Opn.slice Try.underlying22 (by kernel_rfl) (by kernel_rfl) (Opn.slice Try.underlying28 (by kernel_rfl) (by kernel_rfl) (Opn.int Try.underlying3))

/-- A graph that came in. -/
theorem graph_in {W : World} {a : Option Addr} {len cap : Nat} {next : List (List Int)} (hK : (Kd.slice 28 (Kd.slice 3 (Kd.int .i64))).K W next (Value.slice a len cap).cells.toList)
    (ok : next.length * 24 ≤ reachBytes ∧ ∀ x ∈ next, x.length * 8 ≤ reachBytes ∧ ∀ y ∈ x, (Lit.int .i64 y).wf = true) :
    len = next.length ∧ next.length ≤ cap ∧ (Kd.slice 3 (Kd.int .i64)).C W a next.length next ∧ next.length * 24 ≤ 140737488351232 ∧ ∀ b, (succs next b).length * 8 ≤ 140737488351232 := by
  obtain ⟨A, c, e, hl, hC⟩ := hK
  simp only [Value.cells, List.cons.injEq, Value.slice.injEq, and_true] at e
  obtain ⟨rfl, rfl, rfl⟩ := e
  refine ⟨rfl, hl, hC, ok.1, ?_⟩
  intro b
  unfold succs
  rw [List.getD_eq_getElem?_getD]
  cases h : next[b.toNat]? with
  | none => simp
  | some x => exact (ok.2 x (List.mem_of_getElem? h)).1

theorem flowMust_row (W : World) {a0 : Option Addr} {len0 cap0 : Nat} (next : List (List Int)) (hK : (Kd.slice 28 (Kd.slice 3 (Kd.int .i64))).K W next (Value.slice a0 len0 cap0).cells.toList)
    (ok : next.length * 24 ≤ reachBytes ∧ ∀ x ∈ next, x.length * 8 ≤ reachBytes ∧ ∀ y ∈ x, (Lit.int .i64 y).wf = true) (a : Int) (_ : (Lit.int .i64 a).wf = true) (b : Int) (_ : (Lit.int .i64 b).wf = true) :
    Calls Try.prog 5 #[.slice a0 len0 cap0, .int .i64 a, .int .i64 b] W (BoolPost W true) := by
  obtain ⟨rfl, hc, hC, hsz, hlen⟩ := graph_in hK ok
  exact flowMust_any W next a0 cap0 hc hC hsz hlen a b
end Go.Proofs.Ytnlapancooecjaa
