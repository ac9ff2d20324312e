/- The contract of flow.Must and of its closure. Conditions: the graph's outer slice takes at most 2^47 - 4096 bytes. -/
import Derived.Test.YtnlapancooecjaaOrd
namespace Go.Proofs.Ytnlapancooecjaa
set_option linter.unusedVariables false
set_option linter.unusedSimpArgs false
open Go.RowKit Go.Proofs.YtnlapancooecjaaW.PrintWords

/-! ### Must -/
structure MustI (B0 B : Nat) (b : Int) (L : List Int) (w : World) : Prop where
  bx : w.heap[B0]? = some (.cells #[.int .i64 b] 3 (0, 0))
  ar : w.heap[B]? = some (.cells #[.bool (L.contains b)] 4 (0, 0))

set_option maxHeartbeats 1000000 in
theorem must1_any (B0 B : Nat) (b : Int) (L : List Int) (k : Int) (w : World) (h : MustI B0 B b L w) :
    Calls Try.prog 28 #[.int .i64 k, .pointer (some ⟨B, 0, none⟩), .pointer (some ⟨B0, 0, none⟩)] w (fun e w' => isRet e ∧ w.setCell ⟨B, 0, none⟩ (.bool ((L ++ [k]).contains b)) = w') := by
  have c1 := cell_of_one h.bx
  have c2 := cell_of_one h.ar
  have c3 := free_of_one h.ar
  clear h
  have e1 : (L ++ [k]).contains b = (L.contains b || (k == b)) := by
    rw [Bool.eq_iff_iff]
    simp only [List.contains_iff_mem, List.mem_append, List.mem_singleton, Bool.or_eq_true, beq_iff_eq]
    exact or_congr Iff.rfl eq_comm
  rw [e1]
  clear e1
  generalize L.contains b = x at *
  cases x with
  | true =>
    go_enter Try.func28, Try.ntmps28
    go_wp2_with fail
    go_end0
    exact ⟨rfl, rfl⟩
  | false =>
    go_enter Try.func28, Try.ntmps28
    go_wp2_with fail
    go_end0
    exact ⟨rfl, rfl⟩

theorem mustOut (w0 : World) (n Bd B0 B : Nat) (b : Int) (hB0 : B0 < Bd) (hB : w0.heap.size ≤ B) (hd : B < Bd) (hne : B0 ≠ B) : OutOk Bd w0 n 28 #[.pointer (some ⟨B, 0, none⟩), .pointer (some ⟨B0, 0, none⟩)] (MustI B0 B b) where
  goes := goes28
  step := by
    rintro L k w hb hL hz hbel hI
    refine (must1_any B0 B b L k w hI).mono ?_
    rintro e w' ⟨he, rfl⟩
    exact ⟨he, ⟨by rw [Below.heap_setCell _ _ _ _ (by show B0 ≠ B; omega)]; exact hI.bx, one_setCell hI.ar⟩, hbel.setCell hB _, by simp, fun i h1 h2 => Below.heap_setCell _ _ _ _ (by show i ≠ B; omega)⟩
  stable := by
    rintro L w w' h hz hk
    exact ⟨by rw [hk B0 (lt_of_block h.bx) (by omega)]; exact h.bx, by rw [hk B (lt_of_block h.ar) (by omega)]; exact h.ar⟩

def mustF (next : List (List Int)) (a b : Int) : Bool :=
  decide (0 ≤ a ∧ a < next.length ∧ 0 ≤ b ∧ b < next.length) && (hit (reachF next) b && !(deepF next a).contains b)

def BoolPost (w : World) (x : Bool) (e : Ending) (w' : World) : Prop := e = .returned (.bool x) ∧ Below w.heap.size w w'

set_option maxHeartbeats 1000000 in
theorem must_a0 (w : World) (A : Option Addr) (n c : Nat) (a b : Int) (h : a < 0) :
    Calls Try.prog 19 #[.slice A n c, .int .i64 a, .int .i64 b] w (BoolPost w false) := by
  have h1 : decide (a < 0) = true := decide_eq_true h
  clear h
  go_enter Try.func19, Try.ntmps19
  go_wp2_with fail
  go_quiet (fail)
  go_wp2_with fail
  go_ret
  exact ⟨rfl, pw_below_drewN ((Below.refl _ _).alloc (Nat.le_refl _) _) _⟩

set_option maxHeartbeats 1000000 in
theorem must_an (w : World) (A : Option Addr) (n c : Nat) (a b : Int) (h0 : 0 ≤ a) (h : (n : Int) ≤ a) :
    Calls Try.prog 19 #[.slice A n c, .int .i64 a, .int .i64 b] w (BoolPost w false) := by
  have h1 : decide (a < 0) = false := decide_eq_false (by omega)
  have h2 : decide ((n : Int) ≤ a) = true := decide_eq_true h
  clear h h0
  go_enter Try.func19, Try.ntmps19
  go_wp2_with fail
  go_quiet (fail)
  go_wp2_with fail
  go_ret
  exact ⟨rfl, pw_below_drewN ((Below.refl _ _).alloc (Nat.le_refl _) _) _⟩

set_option maxHeartbeats 1000000 in
theorem must_b0 (w : World) (A : Option Addr) (n c : Nat) (a b : Int) (h0 : 0 ≤ a) (h : a < n) (hb : b < 0) :
    Calls Try.prog 19 #[.slice A n c, .int .i64 a, .int .i64 b] w (BoolPost w false) := by
  have h1 : decide (a < 0) = false := decide_eq_false (by omega)
  have h2 : decide ((n : Int) ≤ a) = false := decide_eq_false (by omega)
  have h3 : decide (b < 0) = true := decide_eq_true hb
  clear h h0 hb
  go_enter Try.func19, Try.ntmps19
  go_wp2_with fail
  go_quiet (fail)
  go_wp2_with fail
  go_ret
  exact ⟨rfl, pw_below_drewN ((Below.refl _ _).alloc (Nat.le_refl _) _) _⟩

set_option maxHeartbeats 1000000 in
theorem must_bn (w : World) (A : Option Addr) (n c : Nat) (a b : Int) (h0 : 0 ≤ a) (h : a < n) (hb : 0 ≤ b) (hbn : (n : Int) ≤ b) :
    Calls Try.prog 19 #[.slice A n c, .int .i64 a, .int .i64 b] w (BoolPost w false) := by
  have h1 : decide (a < 0) = false := decide_eq_false (by omega)
  have h2 : decide ((n : Int) ≤ a) = false := decide_eq_false (by omega)
  have h3 : decide (b < 0) = false := decide_eq_false (by omega)
  have h4 : decide ((n : Int) ≤ b) = true := decide_eq_true hbn
  clear h h0 hb hbn
  go_enter Try.func19, Try.ntmps19
  go_wp2_with fail
  go_quiet (fail)
  go_wp2_with fail
  go_ret
  exact ⟨rfl, pw_below_drewN ((Below.refl _ _).alloc (Nat.le_refl _) _) _⟩


theorem reachF_len (next : List (List Int)) : (reachF next).length = next.length := by unfold reachF; rw [marks_len]; simp

/-- The cell of a row of truth values. -/
theorem bool_cell {w : World} {base : Nat} {ok : Nat → Prop} {v : Value} {xs : List Bool} (h : Kd.R Kd.bool 4 w base ok v xs) : ∃ A c, v = .slice A xs.length c ∧ ∀ b, b < xs.length → ∃ ad, A = some ad ∧ w.cell? (ad.add b) = some (.bool (xs.getD b false)) := by
  obtain ⟨A, c, e, hl, hC⟩ := Kd.R_reads h
  refine ⟨A, c, e, fun b hb => ?_⟩
  obtain ⟨ad, e1, h1⟩ := Kd.at_bool hC (b : Int) (by omega) (by omega)
  rw [Int.toNat_natCast] at h1
  exact ⟨ad, e1, h1⟩

def MustS (w : World) (b : Int) (w' : World) : Prop := w'.heap[w.heap.size]? = some (.cells #[.int .i64 b] 3 (0, 0)) ∧ Below w.heap.size w w' ∧ w.heap.size < w'.heap.size
theorem MustS.keep {w w1 w' : World} {b : Int} (h : MustS w b w1) (hB : Below w1.heap.size w1 w') : MustS w b w' :=
  ⟨(hB.block w.heap.size h.2.2).trans h.1, below_then h.2.1 h.2.1.size hB, Nat.lt_of_lt_of_le h.2.2 hB.size⟩
theorem MustS.start (w : World) (b : Int) : MustS w b (w.alloc (.cells #[.int .i64 b] 3)).drew := ⟨heap_alloc_new _ _, ((Below.refl _ _).alloc (Nat.le_refl _) _).drew, by simp⟩

theorem must_call (w w1 : World) (next : List (List Int)) (A : Option Addr) (c : Nat) (hc : next.length ≤ c) (hC : (Kd.slice 3 (Kd.int .i64)).C w A next.length next) (hsz : next.length * 24 ≤ 140737488351232) (b : Nat) (hb : b < next.length) (x : Bool) (hr : (reachF next).getD b false = x)
    (hS : MustS w b w1) :
    Calls Try.prog 12 #[.slice A next.length c] w1 (fun e w' => ∃ ad c1, e = .returned (.slice (some ad) next.length c1) ∧ w'.cell? (ad.add b) = some (.bool x) ∧ w'.cell? ⟨w.heap.size, 0, none⟩ = some (.int .i64 b) ∧ RowKit.Hid (MustS w b w')) := by
  refine (reach_any _ next A c hc (Kd.C_below hC hS.2.1) hsz).mono ?_
  rintro e w' ⟨v, rfl, hR, hB⟩
  obtain ⟨A1, c1, rfl, hcell⟩ := bool_cell hR
  obtain ⟨ad, rfl, hc1⟩ := hcell b (by rw [reachF_len]; exact hb)
  rw [hr] at hc1
  rw [reachF_len]
  have hk := MustS.keep (w := w) (b := b) hS hB
  exact ⟨ad, c1, rfl, hc1, cell_of_one hk.1, hk⟩

set_option maxHeartbeats 2000000 in
theorem must_no (w : World) (next : List (List Int)) (A : Option Addr) (c : Nat) (hc : next.length ≤ c) (hC : (Kd.slice 3 (Kd.int .i64)).C w A next.length next) (hsz : next.length * 24 ≤ 140737488351232)
    (a : Int) (b : Nat) (h0 : 0 ≤ a) (h : a < next.length) (hb : b < next.length) (hr : (reachF next).getD b false = false) :
    Calls Try.prog 19 #[.slice A next.length c, .int .i64 a, .int .i64 b] w (BoolPost w false) := by
  have h1 : decide (a < 0) = false := decide_eq_false (by omega)
  have h2 : decide ((next.length : Int) ≤ a) = false := decide_eq_false (by omega)
  have h3 : decide ((b : Int) < 0) = false := decide_eq_false (by omega)
  have h4 : decide ((next.length : Int) ≤ b) = false := decide_eq_false (by omega)
  have h5 : decide (next.length ≤ b) = false := decide_eq_false (by omega)
  have HR := Lib.hid hr
  have HC := Lib.hid hC
  have k1 : (0 : Int) ≤ b := by omega
  have k2 : (b : Int) < next.length := by omega
  clear h h0 hr hC
  go_enter Try.func19, Try.ntmps19
  go_wp2_with fail
  go_region_with ((go_at_call 12; refine (must_call w _ next A c hc HC.out hsz b hb false HR.out (MustS.start w b)).mono ?_; rintro e w' ⟨ad, c1, rfl, hc1, s1, HS⟩))
  all_goals (go_wp2_with fail; go_ret; exact ⟨rfl, HS.out.2.1⟩)

set_option maxHeartbeats 2000000 in
theorem must_yes (w : World) (next : List (List Int)) (A : Option Addr) (c : Nat) (hc : next.length ≤ c) (hC : (Kd.slice 3 (Kd.int .i64)).C w A next.length next) (hsz : next.length * 24 ≤ 140737488351232)
    (a : Int) (b : Nat) (h0 : 0 ≤ a) (h : a < next.length) (hb : b < next.length) (hr : (reachF next).getD b false = true) (x : Bool) (hx : (deepF next a).contains (b : Int) = x) :
    Calls Try.prog 19 #[.slice A next.length c, .int .i64 a, .int .i64 b] w (BoolPost w (!x)) := by
  have hmf : ∀ (fn : Fn) (first cap : Array Value) (w : World), (Instr.makeFunc fn first cap).run Try.prog w = .ok (.func fn first cap) w := fun _ _ _ _ => rfl
  have h1 : decide (a < 0) = false := decide_eq_false (by omega)
  have h2 : decide ((next.length : Int) ≤ a) = false := decide_eq_false (by omega)
  have h3 : decide ((b : Int) < 0) = false := decide_eq_false (by omega)
  have h4 : decide ((next.length : Int) ≤ b) = false := decide_eq_false (by omega)
  have h5 : decide (next.length ≤ b) = false := decide_eq_false (by omega)
  have HR := Lib.hid hr
  have HC := Lib.hid hC
  have k1 : (0 : Int) ≤ b := by omega
  have k2 : (b : Int) < next.length := by omega
  have Hdeep := Lib.hid (show ∀ w' : World, MustS w b w' →
      Calls Try.prog 21 #[.slice A next.length c, .int .i64 a, .func (.func 28) #[] #[.pointer (some ⟨w'.heap.size, 0, none⟩), .pointer (some ⟨w.heap.size, 0, none⟩)]] (w'.alloc (.cells #[.bool false] 4))
        (fun e w2 => isRet e ∧ w2.cell? ⟨w'.heap.size, 0, none⟩ = some (.bool x) ∧ Below w.heap.size w w2) from by
    rintro w' ⟨hblk, hB, hz⟩
    refine (deep_any w _ next A c hc hC (hB.alloc hB.size _) hsz a 28 _ (MustI w.heap.size w'.heap.size b) (mustOut w next.length _ w.heap.size w'.heap.size b (by simp; omega) hB.size (by simp) (by omega)) ?_).mono ?_
    · exact ⟨by rw [heap_get, if_neg (by omega)]; exact hblk, by rw [heap_get, if_pos rfl]; rfl⟩
    · rintro e w2 ⟨he, hI, hB2⟩
      exact ⟨he, by rw [← hx]; exact cell_of_one hI.ar, hB2⟩)
  clear h h0 hr hC hx
  go_enter Try.func19, Try.ntmps19
  go_wp2_with fail
  go_region_with ((go_at_call 12; refine (must_call w _ next A c hc HC.out hsz b hb true HR.out (MustS.start w b)).mono ?_; rintro e w' ⟨ad, c1, rfl, hc1, s1, HS⟩))
  all_goals
    have hz' : w.heap.size < w'.heap.size := HS.out.2.2
    go_wp2_with fail
    refine (Hdeep.out w' HS.out).mono ?_
    rintro e w2 ⟨he, hcell, hB2⟩
    obtain rfl : e = _ := he
    have HB2 := Lib.hid hB2
    clear hB2
    go_wp2_with fail
    go_ret
    exact ⟨rfl, HB2.out⟩

theorem must_any (w : World) (next : List (List Int)) (A : Option Addr) (c : Nat) (hc : next.length ≤ c) (hC : (Kd.slice 3 (Kd.int .i64)).C w A next.length next) (hsz : next.length * 24 ≤ 140737488351232)
    (a b : Int) : Calls Try.prog 19 #[.slice A next.length c, .int .i64 a, .int .i64 b] w (BoolPost w (mustF next a b)) := by
  unfold mustF
  by_cases h1 : a < 0
  · rw [decide_eq_false (by omega), Bool.false_and]; exact must_a0 w A _ c a b h1
  by_cases h2 : (next.length : Int) ≤ a
  · rw [decide_eq_false (by omega), Bool.false_and]; exact must_an w A _ c a b (by omega) h2
  by_cases h3 : b < 0
  · rw [decide_eq_false (by omega), Bool.false_and]; exact must_b0 w A _ c a b (by omega) (by omega) h3
  by_cases h4 : (next.length : Int) ≤ b
  · rw [decide_eq_false (by omega), Bool.false_and]; exact must_bn w A _ c a b (by omega) (by omega) (by omega) h4
  rw [decide_eq_true (by omega), Bool.true_and]
  obtain ⟨m, rfl⟩ := Int.eq_ofNat_of_zero_le (show 0 ≤ b by omega)
  have hm : m < next.length := by omega
  have hh : hit (reachF next) (m : Int) = (reachF next).getD m false := by simp [hit]
  rw [hh]
  cases hr : (reachF next).getD m false with
  | false => rw [Bool.false_and]; exact must_no w next A c hc hC hsz a m (by omega) (by omega) hm hr
  | true => rw [Bool.true_and]; exact must_yes w next A c hc hC hsz a m (by omega) (by omega) hm hr _ rfl

end Go.Proofs.Ytnlapancooecjaa
