/- The contract of flow.deep and of its inner closure: depth first, over any closure that it hands blocks to. Conditions: the graph's outer slice takes at most 2^47 - 4096 bytes. -/
import Derived.Test.YtnlapancooecjaaProg
import Derived.Test.YtnlapancooecjaaWWords
import Derived.WalkKit
import Derived.WalkLawsBesides
import Derived.WalkSpells
import Derived.KernelRfl
import Derived.Deep.LoopGhost
import Derived.Deep.QuietTactic
import Derived.BigQuiet
import Derived.Lib.Hide
import Derived.Laws.EntriesVeiled
namespace Go.Proofs.Ytnlapancooecjaa
set_option linter.unusedVariables false
set_option linter.unusedSimpArgs false
open Go.RowKit Go.Proofs.YtnlapancooecjaaW.PrintWords

def succs (next : List (List Int)) (b : Int) : List Int := next.getD b.toNat []
def hit (s : List Bool) (b : Int) : Bool := s.getD b.toNat false

/-- The pure walk: depth first. -/
def visit (next : List (List Int)) (barred : Int) : Nat → Int → List Bool × List Int → List Bool × List Int
  | 0, _, st => st
  | k + 1, b, st => if b < 0 ∨ (next.length : Int) ≤ b ∨ hit st.1 b = true ∨ b = barred then st
      else
        let r := (succs next b).foldl (fun st n => visit next barred k n st) (st.1.set b.toNat true, st.2)
        (r.1, r.2 ++ [b])

abbrev one (w : World) (b : Nat) (v : Value) (t : TypeId) : Prop := w.heap[b]? = some (.cells #[v] t (0, 0))

/-- the blocks of deep: next, barred, out; seen's array, seen, visit -/
structure Deep (Bd : Nat) (w0 w : World) (next : List (List Int)) (barred : Int) (fo : Nat) (caps : Array Value) (s : List Bool) : Prop where
  lt : Bd + 6 ≤ w.heap.size
  bel : Below w0.heap.size w0 w
  base : w0.heap.size ≤ Bd
  len : s.length = next.length
  nx : ∃ A c, next.length ≤ c ∧ (Kd.slice 3 (Kd.int .i64)).C w0 A next.length next ∧ w.heap[Bd]? = some (.cells #[.slice A next.length c] 22 (0, 0))
  arr : w.heap[Bd+3]? = some (.cells (bools s).toArray 4 (0, 0))
  sn : w.heap[Bd+4]? = some (.cells #[.slice (some ⟨Bd+3, 0, none⟩) next.length next.length] 25 (0, 0))
  bar : w.heap[Bd+1]? = some (.cells #[.int .i64 barred] 3 (0, 0))
  vis : w.heap[Bd+5]? = some (.cells #[.func (.func 29) #[] #[.pointer (some ⟨Bd, 0, none⟩), .pointer (some ⟨Bd+4, 0, none⟩), .pointer (some ⟨Bd+1, 0, none⟩), .pointer (some ⟨Bd+5, 0, none⟩), .pointer (some ⟨Bd+2, 0, none⟩)]] 37 (0, 0))
  out : w.heap[Bd+2]? = some (.cells #[.func (.func fo) #[] caps] 37 (0, 0))

abbrev vargs (Bd : Nat) (b : Int) : Array Value := #[.int .i64 b, .pointer (some ⟨Bd, 0, none⟩), .pointer (some ⟨Bd+4, 0, none⟩), .pointer (some ⟨Bd+1, 0, none⟩), .pointer (some ⟨Bd+5, 0, none⟩), .pointer (some ⟨Bd+2, 0, none⟩)]
def isRet (e : Ending) : Prop := e = .returned (.tuple #[])

theorem visit_out (Bd : Nat) (w : World) (b : Int) (hb : b < 0) : Calls Try.prog 29 (vargs Bd b) w (fun e w' => isRet e ∧ w = w') := by
  have hb' : decide (b < 0) = true := decide_eq_true hb
  clear hb
  go_enter Try.func29, Try.ntmps29
  go_wp2_with fail
  exact bodyPost_ret (results_none rfl _ _ _) rfl ⟨rfl, rfl⟩

theorem visit_ge (Bd : Nat) (w : World) (n : Nat) (b : Int) (A : Option Addr) (c : Nat) (hn : one w Bd (.slice A n c) 22)
   (hb : ¬ b < 0) (hb2 : (n : Int) ≤ b) : Calls Try.prog 29 (vargs Bd b) w (fun e w' => isRet e ∧ w = w') := by
  have hb' : decide (b < 0) = false := decide_eq_false hb
  have hb2' : decide ((n : Int) ≤ b) = true := decide_eq_true hb2
  clear hb hb2
  have c1 := cell_of_one hn
  clear hn
  go_enter Try.func29, Try.ntmps29
  go_wp2_with fail
  exact bodyPost_ret (results_none rfl _ _ _) rfl ⟨rfl, rfl⟩

theorem visit_seen (Bd : Nat) (w : World) (n : Nat) (b : Nat) (A : Option Addr) (c : Nat) (hn : one w Bd (.slice A n c) 22) (hs : one w (Bd+4) (.slice (some ⟨Bd+3, 0, none⟩) n n) 25) 
   (hb : b < n) (ha : w.cell? ⟨Bd+3, b, none⟩ = some (.bool true)) : Calls Try.prog 29 (vargs Bd b) w (fun e w' => isRet e ∧ w = w') := by
  have c1 := cell_of_one hn
  have c2 := cell_of_one hs
  have h1 : (0 : Int) ≤ b := by omega
  have h2 : (b : Int) < n := by omega
  have hb' : decide ((b : Int) < 0) = false := decide_eq_false (by omega)
  have hb2' : decide ((n : Int) ≤ b) = false := decide_eq_false (by omega)
  clear hn hs hb
  go_enter Try.func29, Try.ntmps29
  go_wp2_with fail
  exact bodyPost_ret (results_none rfl _ _ _) rfl ⟨rfl, rfl⟩

theorem visit_bar (Bd : Nat) (w : World) (n : Nat) (b : Nat) (A : Option Addr) (c : Nat) (hn : one w Bd (.slice A n c) 22) (hs : one w (Bd+4) (.slice (some ⟨Bd+3, 0, none⟩) n n) 25) 
   (hb : b < n) (ha : w.cell? ⟨Bd+3, b, none⟩ = some (.bool false)) (hB : one w (Bd+1) (.int .i64 b) 3) : Calls Try.prog 29 (vargs Bd b) w (fun e w' => isRet e ∧ w = w') := by
  have c1 := cell_of_one hn
  have c2 := cell_of_one hs
  have c3 := cell_of_one hB
  have h1 : (0 : Int) ≤ b := by omega
  have h2 : (b : Int) < n := by omega
  have hb' : decide ((b : Int) < 0) = false := decide_eq_false (by omega)
  have hb2' : decide ((n : Int) ≤ b) = false := decide_eq_false (by omega)
  clear hn hs hb hB
  go_enter Try.func29, Try.ntmps29
  go_wp2_with fail
  exact bodyPost_ret (results_none rfl _ _ _) rfl ⟨rfl, rfl⟩


def unseen (s : List Bool) : Nat := s.countP (fun x => !x)

structure OutOk (Bd : Nat) (w0 : World) (n : Nat) (fo : Nat) (caps : Array Value) (I : List Int → World → Prop) : Prop where
  goes : ∀ args w, (callFunc fo args).run Try.prog w = .ok (.enter fo args) w
  step : ∀ L (b : Nat) w, b < n → L.length < n → Bd + 6 ≤ w.heap.size → Below w0.heap.size w0 w → I L w → Calls Try.prog fo (#[.int .i64 b] ++ caps) w (fun e w' => isRet e ∧ I (L ++ [(b : Int)]) w' ∧ Below w0.heap.size w0 w' ∧ w.heap.size ≤ w'.heap.size ∧ ∀ i, Bd ≤ i → i < Bd + 6 → w'.heap[i]? = w.heap[i]?)
  stable : ∀ L w w', I L w → w.heap.size ≤ w'.heap.size → (∀ i, i < w.heap.size → ¬ (Bd ≤ i ∧ i < Bd+6) → w'.heap[i]? = w.heap[i]?) → I L w'

def VisitPost (Bd : Nat) (w0 : World) (next : List (List Int)) (barred : Int) (fo : Nat) (caps : Array Value) (I : List Int → World → Prop) (st : List Bool × List Int) (e : Ending) (w' : World) : Prop :=
  isRet e ∧ Deep Bd w0 w' next barred fo caps st.1 ∧ I st.2 w'

theorem cell_nx {w : World} {next : List (List Int)} {A : Option Addr} (hC : (Kd.slice 3 (Kd.int .i64)).C w A next.length next) (b : Nat) (hb : b < next.length) :
    ∃ ad A0 c0, A = some ad ∧ w.cell? (ad.add b) = some (.slice A0 (succs next b).length c0) ∧ (succs next b).length ≤ c0 ∧ (Kd.int .i64).C w A0 (succs next b).length (succs next b) := by
  obtain ⟨ad, c, e, _, hK, hc0⟩ := Kd.C_get hC ([] : List Int) (b : Int) (by omega) (by omega)
  have hc : ∀ j u, c[j]? = some u → w.cell? (ad.add ((b : Int).toNat * 1 + j)) = some u := hc0
  obtain ⟨A0, c0, rfl, l0, g0⟩ := hK
  refine ⟨ad, A0, c0, e, ?_, l0, g0⟩
  have hq := hc 0 _ rfl
  rwa [Nat.mul_one, Nat.add_zero] at hq


theorem unseen_set (s : List Bool) (b : Nat) (h : s[b]? = some false) : unseen (s.set b true) + 1 = unseen s := by
  induction s generalizing b with
  | nil => simp at h
  | cons x xs ih =>
    cases b with
    | zero =>
      simp at h; subst h
      simp [unseen]
    | succ b =>
      simp at h
      have := ih b h
      simp only [unseen, List.set_cons_succ, List.countP_cons] at *
      omega

theorem visit_inv (next : List (List Int)) (barred : Int) (k : Nat) : ∀ (b : Int) (st : List Bool × List Int), st.1.length = next.length →
    (visit next barred k b st).1.length = next.length ∧ (visit next barred k b st).2.length + unseen (visit next barred k b st).1 = st.2.length + unseen st.1 ∧ unseen (visit next barred k b st).1 ≤ unseen st.1 := by
  induction k with
  | zero => intro b st h; simp [visit, h]
  | succ k ih =>
    intro b st hl
    have fold : ∀ (l : List Int) (st : List Bool × List Int), st.1.length = next.length →
        (l.foldl (fun st n => visit next barred k n st) st).1.length = next.length ∧ (l.foldl (fun st n => visit next barred k n st) st).2.length + unseen (l.foldl (fun st n => visit next barred k n st) st).1 = st.2.length + unseen st.1 ∧
          unseen (l.foldl (fun st n => visit next barred k n st) st).1 ≤ unseen st.1 := by
      intro l
      induction l with
      | nil => intro st h; simp [h]
      | cons x xs ihl =>
        intro st h
        obtain ⟨a1, a2, a3⟩ := ih x st h
        obtain ⟨b1, b2, b3⟩ := ihl _ a1
        simp only [List.foldl_cons]
        exact ⟨b1, by omega, by omega⟩
    rw [visit]
    split
    · simp [hl]
    · rename_i hc
      simp only [not_or, Int.not_lt, Int.not_le, Bool.not_eq_true] at hc
      obtain ⟨h0, h1, h2, h3⟩ := hc
      have hlt : b.toNat < st.1.length := by omega
      have hs : st.1[b.toNat]? = some false := by
        rw [List.getElem?_eq_getElem hlt]
        simpa [hit, List.getD_eq_getElem?_getD, List.getElem?_eq_getElem hlt] using h2
      have hu := unseen_set _ _ hs
      obtain ⟨f1, f2, f3⟩ := fold (succs next b) (st.1.set b.toNat true, st.2) (by simp [hl])
      refine ⟨f1, ?_, ?_⟩
      · simp only [List.length_append, List.length_singleton]
        simp only at f2
        omega
      · simp only at f3 ⊢
        omega

theorem fold_inv (next : List (List Int)) (barred : Int) (k : Nat) (l : List Int) : ∀ (st : List Bool × List Int), st.1.length = next.length →
        (l.foldl (fun st n => visit next barred k n st) st).1.length = next.length ∧ (l.foldl (fun st n => visit next barred k n st) st).2.length + unseen (l.foldl (fun st n => visit next barred k n st) st).1 = st.2.length + unseen st.1 ∧
          unseen (l.foldl (fun st n => visit next barred k n st) st).1 ≤ unseen st.1 := by
      induction l with
      | nil => intro st h; simp [h]
      | cons x xs ihl =>
        intro st h
        obtain ⟨a1, a2, a3⟩ := visit_inv next barred k x st h
        obtain ⟨b1, b2, b3⟩ := ihl _ a1
        simp only [List.foldl_cons]
        exact ⟨b1, by omega, by omega⟩

theorem Deep.set {Bd : Nat} {w0 w : World} {next : List (List Int)} {barred : Int} {fo : Nat} {caps : Array Value} {s : List Bool} (h : Deep Bd w0 w next barred fo caps s) (b : Nat) :
    Deep Bd w0 (w.setCell ⟨Bd+3, b, none⟩ (.bool true)) next barred fo caps (s.set b true) where
  lt := by simpa using h.lt
  bel := h.bel.setCell (by have := h.base; show _ ≤ Bd + 3; omega) _
  base := h.base
  len := by simp [h.len]
  nx := by
    obtain ⟨A, c, h1, h2, h3⟩ := h.nx
    exact ⟨A, c, h1, h2, by rw [Below.heap_setCell _ _ _ _ (by show Bd ≠ Bd + 3; omega)]; exact h3⟩
  arr := by
    simp only [World.setCell, Array.getElem?_modify, if_true, h.arr, Option.map_some]
    simp [bools, List.map_set]
  sn := by rw [Below.heap_setCell _ _ _ _ (by show Bd + 4 ≠ Bd + 3; omega)]; exact h.sn
  bar := by rw [Below.heap_setCell _ _ _ _ (by show Bd + 1 ≠ Bd + 3; omega)]; exact h.bar
  vis := by rw [Below.heap_setCell _ _ _ _ (by show Bd + 5 ≠ Bd + 3; omega)]; exact h.vis
  out := by rw [Below.heap_setCell _ _ _ _ (by show Bd + 2 ≠ Bd + 3; omega)]; exact h.out

/-- the blocks of deep itself stay -/
theorem Deep.keep {Bd : Nat} {w0 w w' : World} {next : List (List Int)} {barred : Int} {fo : Nat} {caps : Array Value} {s : List Bool} (h : Deep Bd w0 w next barred fo caps s)
    (hb : Below w0.heap.size w0 w') (hz : w.heap.size ≤ w'.heap.size) (hk : ∀ i, Bd ≤ i → i < Bd + 6 → w'.heap[i]? = w.heap[i]?) : Deep Bd w0 w' next barred fo caps s where
  lt := by have := h.lt; omega
  bel := hb
  base := h.base
  len := h.len
  nx := by
    obtain ⟨A, c, h1, h2, h3⟩ := h.nx
    exact ⟨A, c, h1, h2, by rw [hk _ (by omega) (by omega)]; exact h3⟩
  arr := by rw [hk _ (by omega) (by omega)]; exact h.arr
  sn := by rw [hk _ (by omega) (by omega)]; exact h.sn
  bar := by rw [hk _ (by omega) (by omega)]; exact h.bar
  vis := by rw [hk _ (by omega) (by omega)]; exact h.vis
  out := by rw [hk _ (by omega) (by omega)]; exact h.out

theorem visit_step (next : List (List Int)) (barred : Int) (k : Nat) (b : Nat) (st : List Bool × List Int) (hb : b < next.length) (hs : st.1[b]? = some false) (hbar : (b : Int) ≠ barred) :
    visit next barred (k + 1) b st = (((succs next b).foldl (fun st n => visit next barred k n st) (st.1.set b true, st.2)).1, ((succs next b).foldl (fun st n => visit next barred k n st) (st.1.set b true, st.2)).2 ++ [(b : Int)]) := by
  rw [visit, if_neg]
  · simp
  · simp only [not_or]
    refine ⟨by omega, by omega, ?_, hbar⟩
    simp [hit, List.getD_eq_getElem?_getD, hs]

set_option maxHeartbeats 1000000 in
theorem visit_in (Bd : Nat) (w0 : World) (next : List (List Int)) (barred : Int) (fo : Nat) (caps : Array Value) (I : List Int → World → Prop) (hO : OutOk Bd w0 next.length fo caps I) (k : Nat)
    (ih : ∀ (b : Int) (s : List Bool) (L : List Int) (w : World), unseen s < k → L.length + unseen s ≤ next.length → Deep Bd w0 w next barred fo caps s → I L w →
      Calls Try.prog 29 (vargs Bd b) w (VisitPost Bd w0 next barred fo caps I (visit next barred k b (s, L))))
    (b : Nat) (s : List Bool) (L : List Int) (w : World) (hk : unseen s < k + 1) (hL : L.length + unseen s ≤ next.length) (hD : Deep Bd w0 w next barred fo caps s) (hI : I L w)
    (hb : b < next.length) (hs : s[b]? = some false) (hbar : (b : Int) ≠ barred) :
    Calls Try.prog 29 (vargs Bd b) w (VisitPost Bd w0 next barred fo caps I (visit next barred (k + 1) b (s, L))) := by
  obtain ⟨A, c, hc, hC, hn⟩ := hD.nx
  have c1 := cell_of_one hn
  have c2 := cell_of_one hD.sn
  have c3 := cell_of_one hD.bar
  have c4 := cell_of_one hD.vis
  have c5 := cell_of_one hD.out
  have ca : w.cell? ⟨Bd+3, b, none⟩ = some (.bool false) := by simp [World.cell?, hD.arr, bools, hs]
  have cf : ∀ j, w.frozen? ⟨Bd+3, j, none⟩ = false := fun j => by simp [World.frozen?, hD.arr]
  have h1 : (0 : Int) ≤ b := by omega
  have h2 : (b : Int) < next.length := by omega
  have hb' : decide ((b : Int) < 0) = false := decide_eq_false (by omega)
  have hb2' : decide ((next.length : Int) ≤ b) = false := decide_eq_false (by omega)
  have hbb : ((b : Int) == barred) = false := by simpa using hbar
  have HD := Lib.hid hD
  have HI := Lib.hid hI
  have HO := Lib.hid hO
  have HN := Lib.hid hn
  have hb3 : decide (next.length ≤ b) = false := decide_eq_false (by omega)
  have hD1 := hD.set b
  have hI1 : I L (w.setCell ⟨Bd+3, b, none⟩ (.bool true)) := hO.stable L w _ hI (by simp) (fun i _ hi => Below.heap_setCell _ _ _ _ (by show i ≠ Bd + 3; omega))
  have hgo := hO.goes
  have HD1 := Lib.hid hD1
  have HI1 := Lib.hid hI1
  have c41 := cell_of_one hD1.vis
  have c51 := cell_of_one hD1.out
  have hu := unseen_set s b hs
  have hlen := hD.len
  have hmono := fun l => fold_inv next barred k l (s.set b true, L) (by simp [hlen])
  have HM := Lib.hid hmono
  have HV := Lib.hid (visit_step next barred k b (s, L) hb hs hbar)
  obtain ⟨ad, A0, c0, rfl, cn0, hlc0, hC0⟩ := cell_nx hC b hb
  have cn := pw_cell_below hD1.bel cn0
  clear hn hD hI hO hD1 hI1 cn0 hmono hlen hbar hs
  go_enter Try.func29, Try.ntmps29
  go_wp2_with fail
  go_loopw [36] (fun v wr => ∃ (j : Nat), j ≤ (succs next b).length ∧ v = .int .i64 j ∧ (∃ st, st = ((succs next b).take j).foldl (fun st n => visit next barred k n st) (s.set b true, L) ∧ Deep Bd w0 wr next barred fo caps st.1 ∧ I st.2 wr)) (fun v _ => (succs next b).length - (intOf v).toNat)
  case atStart => exact ⟨0, Nat.zero_le _, rfl, _, rfl, HD1.out, HI1.out⟩
  case round =>
    clear c1 c2 c3 c4 c5 ca cf c41 c51 cn HD HI HN HD1 HI1
    obtain ⟨j, hj, rfl, st, hst, hDr, hIr⟩ := hrel
    have c4 := cell_of_one hDr.vis
    have c5 := cell_of_one hDr.out
    have hm : (succs next b).length ≤ 9223372036854775807 := hC0.2.1
    by_cases hlt : j < (succs next b).length
    · obtain ⟨ad0, rfl, cj0⟩ := Kd.at_int hC0 j (by omega) (by omega)
      have cj := pw_cell_below hDr.bel cj0
      rw [Int.toNat_natCast] at cj
      have hM := HM.out ((succs next b).take j)
      rw [← hst] at hM
      obtain ⟨hM1, hM2, hM3⟩ := hM
      try simp only at hM2 hM3
      have hq := ih (rd (succs next b) j) st.1 st.2 wr (by omega) (by omega) hDr hIr
      have hst' : visit next barred k (rd (succs next b) j) (st.1, st.2) = ((succs next b).take (j + 1)).foldl (fun st n => visit next barred k n st) (s.set b true, L) := by
        rw [List.take_succ_eq_append_getElem hlt, List.foldl_append, ← hst]
        simp [rd, List.getElem?_eq_getElem hlt]
      have HST := Lib.hid hst'
      have HQ := Lib.hid hq
      clear hst cj0 hst' hM1 hM2 hM3 hq hDr hIr ih
      go_wp2_with fail
      refine HQ.out.mono ?_
      rintro e w' ⟨he, hD', hI'⟩
      obtain rfl : e = _ := he
      have HD' := Lib.hid hD'
      have HI' := Lib.hid hI'
      clear hD' hI'
      go_wp2_with fail
      go_roundw
      case rel => exact ⟨j + 1, by omega, by go_num, _, HST.out, HD'.out, HI'.out⟩
      case measure => simp [intOf]; omega
    · clear ih
      have hj' : (succs next b).take j = succs next b := List.take_of_length_le (by omega)
      rw [hj'] at hst
      have hM := HM.out (succs next b)
      rw [← hst] at hM
      obtain ⟨hM1, hM2, hM3⟩ := hM
      try simp only at hM2 hM3
      have hq := HO.out.step st.2 b wr hb (by omega) hDr.lt hDr.bel hIr
      have HQ := Lib.hid hq
      have HST := Lib.hid hst
      have HDR := Lib.hid hDr
      clear hst hq hDr hIr hM1 hM2 hM3 hj'
      go_wp2_with fail
      refine HQ.out.mono ?_
      rintro e w' ⟨he, hI', hB', hz', hk'⟩
      obtain rfl : e = _ := he
      have HB' := Lib.hid hB'
      have HI' := Lib.hid hI'
      have HK' := Lib.hid hk'
      clear hB' hI' hk'
      go_wp2_with fail
      go_end0
      refine ⟨rfl, ?_, ?_⟩
      · rw [HV.out, ← HST.out]; exact HDR.out.keep HB'.out hz' HK'.out
      · rw [HV.out, ← HST.out]; exact HI'.out

theorem Deep.cell {Bd : Nat} {w0 w : World} {next : List (List Int)} {barred : Int} {fo : Nat} {caps : Array Value} {s : List Bool} (h : Deep Bd w0 w next barred fo caps s) (b : Nat) (x : Bool) (hs : s[b]? = some x) :
    w.cell? ⟨Bd+3, b, none⟩ = some (.bool x) := by simp [World.cell?, h.arr, bools, hs]

theorem visit_any (Bd : Nat) (w0 : World) (next : List (List Int)) (barred : Int) (fo : Nat) (caps : Array Value) (I : List Int → World → Prop) (hO : OutOk Bd w0 next.length fo caps I) (k : Nat) :
    ∀ (b : Int) (s : List Bool) (L : List Int) (w : World), unseen s < k → L.length + unseen s ≤ next.length → Deep Bd w0 w next barred fo caps s → I L w →
      Calls Try.prog 29 (vargs Bd b) w (VisitPost Bd w0 next barred fo caps I (visit next barred k b (s, L))) := by
  induction k with
  | zero => intro b s L w h; omega
  | succ k ih =>
    intro b s L w hk hL hD hI
    have stay : ∀ {f : Ending → World → Prop}, (b < 0 ∨ (next.length : Int) ≤ b ∨ hit s b = true ∨ b = barred) → Calls Try.prog 29 (vargs Bd b) w (fun e w' => isRet e ∧ w = w') →
        Calls Try.prog 29 (vargs Bd b) w (VisitPost Bd w0 next barred fo caps I (visit next barred (k + 1) b (s, L))) := by
      intro f hc hcall
      refine hcall.mono ?_
      rintro e w' ⟨he, rfl⟩
      have hv : visit next barred (k + 1) b (s, L) = (s, L) := by rw [visit, if_pos hc]
      rw [hv]
      exact ⟨he, hD, hI⟩
    obtain ⟨A, c, hc, hC, hn⟩ := hD.nx
    by_cases h0 : b < 0
    · exact stay (f := fun _ _ => True) (.inl h0) (visit_out Bd w b h0)
    by_cases h1 : (next.length : Int) ≤ b
    · exact stay (f := fun _ _ => True) (.inr (.inl h1)) (visit_ge Bd w next.length b A c hn h0 h1)
    obtain ⟨m, rfl⟩ := Int.eq_ofNat_of_zero_le (show 0 ≤ b by omega)
    have hm : m < next.length := by omega
    have hms : m < s.length := by rw [hD.len]; exact hm
    have hsm : s[m]? = some s[m] := List.getElem?_eq_getElem hms
    cases hx : s[m] with
    | true =>
      rw [hx] at hsm
      exact stay (f := fun _ _ => True) (.inr (.inr (.inl (by simp [hit, List.getD_eq_getElem?_getD, hsm])))) (visit_seen Bd w next.length m A c hn hD.sn hm (hD.cell m true hsm))
    | false =>
      rw [hx] at hsm
      by_cases hbar : (m : Int) = barred
      · have hB := hD.bar
        rw [← hbar] at hB
        exact stay (f := fun _ _ => True) (.inr (.inr (.inr hbar))) (visit_bar Bd w next.length m A c hn hD.sn hm (hD.cell m false hsm) hB)
      · exact visit_in Bd w0 next barred fo caps I hO k ih m s L w hk hL hD hI hm hsm hbar

/-- what deep comes to -/
def deepF (next : List (List Int)) (barred : Int) : List Int := (visit next barred (next.length + 1) 0 (List.replicate next.length false, [])).2

theorem made_bools (n : Nat) : madeCells #[Value.bool false] n = (bools (List.replicate n false)).toArray := by
  apply Array.ext
  · simp [madeCells, bools]
  · intro i h1 h2
    have h0 : i % 1 = 0 := Nat.mod_one i
    simp [madeCells, bools, h0]

theorem heap_get (w : World) (o : Obj) (k : Nat) : (w.alloc o).heap[k]? = if k = w.heap.size then some o else w.heap[k]? := by
  show (w.heap.push o)[k]? = _
  rw [Array.getElem?_push]

theorem deep_start (w0 w : World) (next : List (List Int)) (A : Option Addr) (c : Nat) (hc : next.length ≤ c) (hC : (Kd.slice 3 (Kd.int .i64)).C w0 A next.length next) (hB : Below w0.heap.size w0 w) (barred : Int) (fo : Nat) (caps : Array Value) :
    Deep w.heap.size w0 ((((((w.alloc (Obj.cells #[Value.slice A next.length c] 22)).alloc (Obj.cells #[Value.int IntKind.i64 barred] 3)).alloc (Obj.cells #[Value.func (Fn.func fo) #[] caps] 37)).alloc (Obj.cells (madeCells #[Value.bool false] next.length) 4)).alloc
          (Obj.cells #[Value.slice (some { block := w.heap.size + 3, off := 0 }) next.length next.length] 25)).alloc
      (Obj.cells #[Value.func (Fn.func 29) #[] #[Value.pointer (some { block := w.heap.size, off := 0 }), Value.pointer (some { block := w.heap.size + 4, off := 0 }), Value.pointer (some { block := w.heap.size + 1, off := 0 }), Value.pointer (some { block := w.heap.size + 5, off := 0 }), Value.pointer (some { block := w.heap.size + 2, off := 0 })]] 37))
    next barred fo caps (List.replicate next.length false) where
  lt := by simp
  bel := by
    have := hB.size
    exact (((((hB.alloc this _).alloc (by simp; try omega) _).alloc (by simp; try omega) _).alloc (by simp; try omega) _).alloc (by simp; try omega) _).alloc (by simp; try omega) _
  base := hB.size
  len := by simp
  nx := ⟨A, c, hc, hC, by simp only [heap_get, World.size_alloc]; (repeat (first | rw [if_pos trivial] | rw [if_pos (by omega)] | rw [if_neg (by omega)]))⟩
  arr := by rw [made_bools]; simp only [heap_get, World.size_alloc]; (repeat (first | rw [if_pos trivial] | rw [if_pos (by omega)] | rw [if_neg (by omega)]))
  sn := by simp only [heap_get, World.size_alloc]; (repeat (first | rw [if_pos trivial] | rw [if_pos (by omega)] | rw [if_neg (by omega)]))
  bar := by simp only [heap_get, World.size_alloc]; (repeat (first | rw [if_pos trivial] | rw [if_pos (by omega)] | rw [if_neg (by omega)]))
  vis := by simp only [heap_get, World.size_alloc]; (repeat (first | rw [if_pos trivial] | rw [if_pos (by omega)] | rw [if_neg (by omega)]))
  out := by simp only [heap_get, World.size_alloc]; (repeat (first | rw [if_pos trivial] | rw [if_pos (by omega)] | rw [if_neg (by omega)]))

theorem unseen_new (n : Nat) : unseen (List.replicate n false) = n := by simp [unseen, List.countP_replicate]

set_option maxHeartbeats 1000000 in
theorem deep_any (w0 w : World) (next : List (List Int)) (A : Option Addr) (c : Nat) (hc : next.length ≤ c) (hC : (Kd.slice 3 (Kd.int .i64)).C w0 A next.length next) (hB : Below w0.heap.size w0 w)
    (hsz : next.length * 24 ≤ 140737488351232) (barred : Int) (fo : Nat) (caps : Array Value) (I : List Int → World → Prop) (hO : OutOk w.heap.size w0 next.length fo caps I) (hI : I [] w) :
    Calls Try.prog 21 #[.slice A next.length c, .int .i64 barred, .func (.func fo) #[] caps] w (fun e w' => isRet e ∧ I (deepF next barred) w' ∧ Below w0.heap.size w0 w') := by
  have hmk : ∀ W : World, (Instr.makeSlice 25 (.int .i64 (next.length : Int)) (.int .i64 (next.length : Int))).run Try.prog W = .ok (.slice (some ⟨W.heap.size, 0, none⟩) next.length next.length) (W.alloc (.cells (madeCells #[.bool false] next.length) 4)) := by
    intro W
    exact run_make_row' 25 4 (.bool false) 1 Try.underlying25 (by kernel_rfl) rfl .i64 .i64 next.length (by omega) (by omega) W
  have HO := Lib.hid hO
  have HI := Lib.hid hI
  clear hO hI
  have hmf : ∀ (fn : Fn) (first cap : Array Value) (w : World), (Instr.makeFunc fn first cap).run Try.prog w = .ok (.func fn first cap) w := fun _ _ _ _ => rfl
  go_enter Try.func21, Try.ntmps21
  go_wp2_with fail
  refine (visit_any w.heap.size w0 next barred fo caps I HO.out (next.length + 1) 0 (List.replicate next.length false) [] _ ?_ ?_ ?_ ?_).mono ?_
  · rw [unseen_new]; omega
  · rw [unseen_new]; simp
  · exact deep_start w0 w next A c hc hC hB barred fo caps
  · exact HO.out.stable [] w _ HI.out (by simp; omega) (fun i hi _ => by simp only [heap_get, World.size_alloc]; (repeat (first | rw [if_pos trivial] | rw [if_pos (by omega)] | rw [if_neg (by omega)])))
  rintro e w' ⟨he, hD', hI'⟩
  obtain rfl : e = _ := he
  have HD' := Lib.hid hD'
  have HI' := Lib.hid hI'
  clear hD' hI'
  go_wp2_with fail
  go_end0
  exact ⟨rfl, HI'.out, HD'.out.bel⟩
end Go.Proofs.Ytnlapancooecjaa
