/- The contract of the closure in flow.Above that finds where two rows meet. Conditions: its rounds come to an end (the Lean function tells a value). -/
import Derived.Test.YtnlapancooecjaaOrd
namespace Go.Proofs.Ytnlapancooecjaa
set_option linter.unusedVariables false
set_option linter.unusedSimpArgs false
open Go.RowKit Go.Proofs.YtnlapancooecjaaW.PrintWords

/-! ### Above's meet -/
def climb (pl ab : List Int) : Nat → Int → Int → Option Int
  | 0, _, _ => none
  | k + 1, a, b => if 0 ≤ a ∧ a < pl.length ∧ 0 ≤ b ∧ b < pl.length then (if rd pl b < rd pl a then climb pl ab k (rd ab a) b else some a) else none
def meetF (pl ab : List Int) : Nat → Int → Int → Option Int
  | 0, _, _ => none
  | k + 1, a, b => if a = b then some a else (climb pl ab k a b).bind fun a' => (climb pl ab k b a').bind fun b' => meetF pl ab k a' b'

structure MeetW (bp bo gp go_ n : Nat) (pl ab : List Int) (w : World) : Prop where
  len : pl.length = n
  p : w.cell? ⟨bp, 0, none⟩ = some (.slice (some ⟨gp, 0, none⟩) n n)
  o : w.cell? ⟨bo, 0, none⟩ = some (.slice (some ⟨go_, 0, none⟩) n n)
  pc : ∀ i : Nat, i < pl.length → w.cell? ⟨gp, i, none⟩ = some (.int .i64 (rd pl i))
  oc : ∀ i : Nat, i < pl.length → w.cell? ⟨go_, i, none⟩ = some (.int .i64 (rd ab i))

set_option maxHeartbeats 1000000 in
theorem meet_any (bp bo gp go_ n : Nat) (pl ab : List Int) (K : Nat) (a0 b0 r : Int) (w : World) (h : MeetW bp bo gp go_ n pl ab w) (hr : meetF pl ab K a0 b0 = some r) :
    Calls Try.prog 27 #[.int .i64 a0, .int .i64 b0, .pointer (some ⟨bp, 0, none⟩), .pointer (some ⟨bo, 0, none⟩)] w (fun e w' => e = .returned (.int .i64 r) ∧ Drawn0 w w') := by
  obtain rfl := h.len
  have H := Lib.hid h
  have HR := Lib.hid hr
  clear h hr
  go_enter Try.func27, Try.ntmps27
  go_wp2_with fail
  go_loopg [0, 1] K (fun k va vb w' => ∃ a b : Int, va = .int .i64 a ∧ vb = .int .i64 b ∧ Aside0 (meetF pl ab k a b = some r) ∧ Drawn0 w w')
  case atStart => exact ⟨a0, b0, rfl, rfl, ⟨HR.out⟩, Drawn0.refl _⟩
  case round =>
    obtain ⟨a, b, rfl, rfl, ⟨hm⟩, ⟨nq, rfl⟩⟩ := hrel
    cases gk with
    | zero => simp [meetF] at hm
    | succ k =>
      simp only [meetF] at hm
      by_cases hab : a = b
      · rw [if_pos hab] at hm
        obtain rfl := Option.some.inj hm
        have h1 : (a != b) = false := by simpa using hab
        clear hab hm
        go_wp2_with fail
        go_ret
        exact ⟨rfl, ⟨nq, rfl⟩⟩
      · rw [if_neg hab] at hm
        obtain ⟨a1, ha1, hm⟩ := Option.bind_eq_some_iff.1 hm
        obtain ⟨b1, hb1, hm⟩ := Option.bind_eq_some_iff.1 hm
        have h1 : (a != b) = true := by simpa using hab
        have HA := Aside0.mk ha1
        have HB := Aside0.mk hb1
        have HM := Aside0.mk hm
        clear ha1 hb1 hm hab
        go_wp2_with fail
        go_loopg [0] k (fun ki va w' => ∃ a2 : Int, va = .int .i64 a2 ∧ Aside0 (climb pl ab ki a2 b = some a1) ∧ Aside0 (ki ≤ k) ∧ Drawn0 w w')
        case atStart => exact ⟨a, rfl, HA, ⟨Nat.le_refl _⟩, ⟨nq, rfl⟩⟩
        case round =>
          obtain ⟨a2, rfl, ⟨hc⟩, HK1, ⟨n1, rfl⟩⟩ := hrel
          cases gk with
          | zero => simp [climb] at hc
          | succ k1 =>
            simp only [climb] at hc
            by_cases hin : 0 ≤ a2 ∧ a2 < pl.length ∧ 0 ≤ b ∧ b < pl.length
            · rw [if_pos hin] at hc
              obtain ⟨i1, i2, i3, i4⟩ := hin
              obtain ⟨x, rfl⟩ := Int.eq_ofNat_of_zero_le i1
              obtain ⟨y, rfl⟩ := Int.eq_ofNat_of_zero_le i3
              have p1 := H.out.p
              have p2 := H.out.o
              have p3 := H.out.pc x (by omega)
              have p4 := H.out.pc y (by omega)
              have p5 := H.out.oc x (by omega)
              by_cases hlt : rd pl y < rd pl x
              · rw [if_pos hlt] at hc
                have hlt' : decide (rd pl y < rd pl x) = true := decide_eq_true hlt
                have HC := Aside0.mk hc
                clear hc hlt
                go_wp2_with fail
                go_quiet (fail)
                go_wp2_with fail
                go_roundg k1
                case measure => omega
                case rel => exact ⟨_, rfl, HC, ⟨by have := HK1.out; omega⟩, ⟨_, rfl⟩⟩
              · rw [if_neg hlt] at hc
                have hlt' : decide (rd pl y < rd pl x) = false := decide_eq_false hlt
                obtain rfl := Option.some.inj hc
                clear hc hlt
                go_wp2_with fail
                go_quiet (fail)
                go_wp2_with fail
                clear p1 p2 p3 p4 p5 hlt' i3 i4 hm
                go_loopg [1] k (fun ki vb w' => ∃ b2 : Int, vb = .int .i64 b2 ∧ Aside0 (climb pl ab ki b2 x = some b1) ∧ Aside0 (ki ≤ k) ∧ Drawn0 w w')
                case atStart => exact ⟨y, rfl, HB, ⟨Nat.le_refl _⟩, ⟨n1 + nq, World.drewN_drewN ..⟩⟩
                case round =>
                  obtain ⟨b2, rfl, ⟨hc⟩, HK2, ⟨n2, rfl⟩⟩ := hrel
                  cases gk with
                  | zero => simp [climb] at hc
                  | succ k2 =>
                    simp only [climb] at hc
                    by_cases hin : 0 ≤ b2 ∧ b2 < pl.length ∧ 0 ≤ (x : Int) ∧ (x : Int) < pl.length
                    · rw [if_pos hin] at hc
                      obtain ⟨i3, i4, _, _⟩ := hin
                      obtain ⟨z, rfl⟩ := Int.eq_ofNat_of_zero_le i3
                      have p1 := H.out.p
                      have p2 := H.out.o
                      have p3 := H.out.pc x (by omega)
                      have p4 := H.out.pc z (by omega)
                      have p5 := H.out.oc z (by omega)
                      by_cases hlt : rd pl x < rd pl z
                      · rw [if_pos hlt] at hc
                        have hlt' : decide (rd pl x < rd pl z) = true := decide_eq_true hlt
                        have HC := Aside0.mk hc
                        clear hc hlt
                        go_wp2_with fail
                        go_quiet (fail)
                        go_wp2_with fail
                        go_roundg k2
                        case measure => omega
                        case rel => exact ⟨_, rfl, HC, ⟨by have := HK2.out; omega⟩, ⟨_, rfl⟩⟩
                      · rw [if_neg hlt] at hc
                        have hlt' : decide (rd pl x < rd pl z) = false := decide_eq_false hlt
                        obtain rfl := Option.some.inj hc
                        clear hc hlt
                        go_wp2_with fail
                        go_quiet (fail)
                        go_wp2_with fail
                        go_roundg k
                        case measure => omega
                        case rel => exact ⟨_, _, rfl, rfl, HM, ⟨_, World.drewN_drewN ..⟩⟩
                    · rw [if_neg hin] at hc
                      simp at hc
            · rw [if_neg hin] at hc
              simp at hc
end Go.Proofs.Ytnlapancooecjaa
