/- The contract of flow.Above: it comes to what the Lean function aboveF tells. Conditions: at most 100 blocks, of at most 400 ways each, and aboveF tells a value. -/
import Derived.Test.YtnlapancooecjaaMeet
import Derived.Test.YtnlapancooecjaaRep
import Derived.Test.YtnlapancooecjaaFrm
namespace Go.Proofs.Ytnlapancooecjaa
set_option linter.unusedVariables false
set_option linter.unusedSimpArgs false
open Go.RowKit Go.Proofs.YtnlapancooecjaaW.PrintWords

/-! ### Above -/
theorem visit_range (next : List (List Int)) (barred : Int) (k : Nat) : ∀ (b : Int) (st : List Bool × List Int), (∀ x ∈ st.2, 0 ≤ x ∧ x < next.length) → ∀ x ∈ (visit next barred k b st).2, 0 ≤ x ∧ x < next.length := by
  induction k with
  | zero => intro b st h; simpa [visit] using h
  | succ k ih =>
    intro b st h
    rw [visit]
    split
    · exact h
    · rename_i hc
      simp only [not_or, Int.not_lt, Int.not_le] at hc
      have fold : ∀ (l : List Int) (st : List Bool × List Int), (∀ x ∈ st.2, 0 ≤ x ∧ x < next.length) → ∀ x ∈ (l.foldl (fun st n => visit next barred k n st) st).2, 0 ≤ x ∧ x < next.length := by
        intro l
        induction l with
        | nil => intro st h; exact h
        | cons y ys ihl => intro st h; exact ihl _ (ih y st h)
      intro x hx
      simp only [List.mem_append, List.mem_singleton] at hx
      rcases hx with hx | rfl
      · exact fold _ (st.1.set b.toNat true, st.2) h x hx
      · exact ⟨hc.1, hc.2.1⟩

theorem deepF_range (next : List (List Int)) (barred : Int) : ∀ x ∈ deepF next barred, 0 ≤ x ∧ x < next.length := visit_range next barred _ 0 _ (by simp)
theorem orderF_range (next : List (List Int)) : ∀ x ∈ orderF next, 0 ≤ x ∧ x < next.length := fun x hx => deepF_range next (-1) x (by simpa [orderF] using hx)
theorem orderF_len (next : List (List Int)) : (orderF next).length ≤ next.length := by unfold orderF; rw [List.length_reverse]; exact deepF_len next (-1)

/-- the places, of the first j of the order -/
def placeF (n : Nat) (order : List Int) (j : Nat) : List Int := (order.take j).zipIdx.foldl (fun pl x => pl.set x.1.toNat (x.2 : Int)) (List.replicate n 0)
theorem placeF_succ (n : Nat) (order : List Int) (j : Nat) (hj : j < order.length) : placeF n order (j + 1) = (placeF n order j).set (rd order j).toNat (j : Int) := by
  unfold placeF
  rw [List.take_succ_eq_append_getElem hj, List.zipIdx_append, List.foldl_append]
  simp [rd, List.getElem?_eq_getElem hj, Nat.min_eq_left (Nat.le_of_lt hj)]
theorem placeF_len (n : Nat) (order : List Int) (j : Nat) : (placeF n order j).length = n := by
  unfold placeF
  have : ∀ (l : List (Int × Nat)) (pl : List Int), (l.foldl (fun pl x => pl.set x.1.toNat (x.2 : Int)) pl).length = pl.length := by
    intro l
    induction l with
    | nil => intro pl; rfl
    | cons x xs ih => intro pl; simp only [List.foldl_cons]; rw [ih]; simp
  rw [this]; simp

/-- A block of whole numbers. -/
abbrev nb (w : World) (g : Nat) (xs : List Int) : Prop := w.heap[g]? = some (.cells (nums .i64 xs).toArray 3 (0, 0))
theorem nb_cell {w : World} {g : Nat} {xs : List Int} (h : nb w g xs) (i : Nat) (hi : i < xs.length) : w.cell? ⟨g, i, none⟩ = some (.int .i64 (rd xs i)) := by
  simp [World.cell?, h, nums, rd, List.getElem?_eq_getElem hi]
theorem nb_free {w : World} {g : Nat} {xs : List Int} (h : nb w g xs) (i : Nat) : w.frozen? ⟨g, i, none⟩ = false := by simp [World.frozen?, h]
theorem nb_set {w : World} {g : Nat} {xs : List Int} (h : nb w g xs) (i : Nat) (x : Int) : nb (w.setCell ⟨g, i, none⟩ (.int .i64 x)) g (xs.set i x) := by
  simp only [nb, World.setCell, Array.getElem?_modify, if_true, h, Option.map_some]
  simp [nums, List.map_set]
theorem blk_set {w : World} {g : Nat} {a : Addr} {u : Value} {o : Obj} (h : w.heap[g]? = some o) (hne : g ≠ a.block) : (w.setCell a u).heap[g]? = some o := by rw [Below.heap_setCell _ _ _ _ hne]; exact h

theorem nb_own {w : World} {g base : Nat} {xs : List Int} (h : nb w g xs) (hb : base ≤ g) (hm : xs.length ≤ maxLen) : w.ownsRow base 3 1 (.slice (some ⟨g, 0, none⟩) xs.length xs.length) xs.length (encs (Value.int .i64) xs) := by
  refine ⟨by simp [encs], .inr ⟨g, xs.length, _, rfl, hb, h, Nat.le_refl _, hm, by simp [nums], ?_⟩⟩
  simp only [nums, encs, Nat.mul_one]
  exact List.take_of_length_le (by simp)

structure PlaceI (w1 w : World) (n : Nat) (pl : List Int) : Prop where
  arr : nb w w1.heap.size pl
  var : w.heap[w1.heap.size + 1]? = some (.cells #[.slice (some ⟨w1.heap.size, 0, none⟩) n n] 28 (0, 0))
  bel : Below w1.heap.size w1 w

/-! the ways back -/
def pushF (n : Nat) (b : Int) (fr : List (List Int)) (y : Int) : List (List Int) := if 0 ≤ y ∧ y < n then fr.set y.toNat (fr.getD y.toNat [] ++ [b]) else fr
def fromIn (n : Nat) (b : Int) (l : List Int) (fr : List (List Int)) : List (List Int) := l.foldl (pushF n b) fr
def fromF (next : List (List Int)) (j : Nat) : List (List Int) := ((orderF next).take j).foldl (fun fr b => fromIn next.length b (succs next b) fr) (List.replicate next.length [])

def Lens (n T : Nat) (fr : List (List Int)) : Prop := fr.length = n ∧ ∀ xs ∈ fr, xs.length ≤ T
theorem Lens.push {n T : Nat} {fr : List (List Int)} (h : Lens n T fr) (b y : Int) : Lens n (T + 1) (pushF n b fr y) := by
  unfold pushF
  split
  · rename_i hy
    refine ⟨by simp [h.1], ?_⟩
    intro xs hx
    rcases List.mem_or_eq_of_mem_set hx with hx | rfl
    · have := h.2 xs hx; omega
    · rw [List.length_append]
      have hlt : y.toNat < fr.length := by have := h.1; omega
      have : (fr.getD y.toNat []).length ≤ T := by
        rw [List.getD_eq_getElem?_getD, List.getElem?_eq_getElem hlt]
        exact h.2 _ (List.getElem_mem hlt)
      simp only [List.length_singleton]
      omega
  · exact ⟨h.1, fun xs hx => by have := h.2 xs hx; omega⟩
theorem Lens.into {n : Nat} (b : Int) (l : List Int) : ∀ {T : Nat} {fr : List (List Int)}, Lens n T fr → Lens n (T + l.length) (fromIn n b l fr) := by
  induction l with
  | nil => intro T fr h; exact h
  | cons y ys ih =>
    intro T fr h
    have := ih (h.push b y)
    simp only [fromIn, List.foldl_cons, List.length_cons] at this ⊢
    rw [show T + (ys.length + 1) = T + 1 + ys.length from by omega]
    exact this
theorem fromF_succ (next : List (List Int)) (j : Nat) (hj : j < (orderF next).length) : fromF next (j + 1) = fromIn next.length (rd (orderF next) j) (succs next (rd (orderF next) j)) (fromF next j) := by
  unfold fromF
  rw [List.take_succ_eq_append_getElem hj, List.foldl_append]
  simp [rd, List.getElem?_eq_getElem hj]
theorem fromF_lens (next : List (List Int)) (M : Nat) (hM : ∀ b, (succs next b).length ≤ M) (j : Nat) (hj : j ≤ (orderF next).length) : Lens next.length (j * M) (fromF next j) := by
  induction j with
  | zero =>
    refine ⟨by simp [fromF], ?_⟩
    intro xs hx
    simp only [fromF, List.take_zero, List.foldl_nil] at hx
    rw [List.eq_of_mem_replicate hx]
    simp
  | succ j ih =>
    rw [fromF_succ next j (by omega)]
    have h := Lens.into (rd (orderF next) j) (succs next (rd (orderF next) j)) (ih (by omega))
    exact ⟨h.1, fun xs hx => by have := h.2 xs hx; have := hM (rd (orderF next) j); rw [Nat.succ_mul]; omega⟩

def FromI (w2 w : World) (fr : List (List Int)) : Prop := (∃ vs, FromW w (w2.heap.size + 1) w2.heap.size fr vs) ∧ Below w2.heap.size w2 w

/-! the sweeps -/
def stepBest (k : Nat) (pl ab : List Int) (best p : Int) : Option Int := if p ≠ 0 ∧ rd ab p < 0 then some best else if best < 0 then some p else meetF pl ab k best p
def bestL (k : Nat) (pl ab : List Int) : List Int → Int → Option Int
  | [], best => some best
  | p :: ps, best => (stepBest k pl ab best p).bind fun b => bestL k pl ab ps b
def sweepL (k : Nat) (pl : List Int) (fr : List (List Int)) : List Int → List Int → Bool → Option (List Int × Bool)
  | [], ab, more => some (ab, more)
  | b :: bs, ab, more => (bestL k pl ab (fr.getD b.toNat []) (-1)).bind fun best => if rd ab b = best then sweepL k pl fr bs ab more else sweepL k pl fr bs (ab.set b.toNat best) true
def aboveL (k : Nat) (pl : List Int) (fr : List (List Int)) (order : List Int) : Nat → List Int → Option (List Int)
  | 0, _ => none
  | m + 1, ab => (sweepL k pl fr order.tail ab false).bind fun r => if r.2 = true then aboveL k pl fr order m r.1 else some r.1
def aboveF (k : Nat) (next : List (List Int)) : Option (List Int) :=
  aboveL k (placeF next.length (orderF next) (orderF next).length) (fromF next (orderF next).length) (orderF next) k (List.replicate next.length (-1))

/-- above, in memory -/
structure SweepI (w3 w : World) (g bo n : Nat) (ab : List Int) : Prop where
  arr : nb w g ab
  var : w.heap[bo]? = some (.cells #[.slice (some ⟨g, 0, none⟩) n n] 28 (0, 0))
  len : ab.length = n
  bel : Below w3.heap.size w3 w
theorem SweepI.set {w3 w : World} {g bo n : Nat} {ab : List Int} (h : SweepI w3 w g bo n ab) (hg : w3.heap.size ≤ g) (hb : bo ≠ g) (i : Nat) (x : Int) : SweepI w3 (w.setCell ⟨g, i, none⟩ (.int .i64 x)) g bo n (ab.set i x) :=
  ⟨nb_set h.arr i x, blk_set h.var (by show bo ≠ g; exact hb), by simp [h.len], h.bel.setCell hg _⟩
theorem SweepI.drewN {w3 w : World} {g bo n : Nat} {ab : List Int} (h : SweepI w3 w g bo n ab) (k : Nat) : SweepI w3 (w.drewN k) g bo n ab := ⟨h.arr, h.var, h.len, pw_below_drewN h.bel k⟩

theorem pushF_mem (n : Nat) (b : Int) (hb : 0 ≤ b ∧ b < n) (fr : List (List Int)) (h : ∀ xs ∈ fr, ∀ x ∈ xs, 0 ≤ x ∧ x < n) (y : Int) : ∀ xs ∈ pushF n b fr y, ∀ x ∈ xs, 0 ≤ x ∧ x < n := by
  unfold pushF
  split
  · intro xs hx
    rcases List.mem_or_eq_of_mem_set hx with hx | rfl
    · exact h xs hx
    · intro x hx
      rcases List.mem_append.1 hx with hx | hx
      · rw [List.getD_eq_getElem?_getD] at hx
        cases e : fr[y.toNat]? with
        | none => rw [e] at hx; simp at hx
        | some zs => rw [e] at hx; exact h zs (List.mem_of_getElem? e) x hx
      · rw [List.mem_singleton] at hx
        rw [hx]; exact hb
  · exact h
theorem fromF_mem (next : List (List Int)) (j : Nat) : ∀ xs ∈ fromF next j, ∀ x ∈ xs, 0 ≤ x ∧ x < next.length := by
  unfold fromF
  have inner : ∀ (b : Int), 0 ≤ b ∧ b < next.length → ∀ (l : List Int) (fr : List (List Int)), (∀ xs ∈ fr, ∀ x ∈ xs, 0 ≤ x ∧ x < next.length) → ∀ xs ∈ fromIn next.length b l fr, ∀ x ∈ xs, 0 ≤ x ∧ x < next.length := by
    intro b hb l
    induction l with
    | nil => intro fr h; exact h
    | cons y ys ih => intro fr h; exact ih _ (pushF_mem _ _ hb fr h y)
  have outer : ∀ (l : List Int), (∀ x ∈ l, 0 ≤ x ∧ x < next.length) → ∀ fr : List (List Int), (∀ xs ∈ fr, ∀ x ∈ xs, 0 ≤ x ∧ x < next.length) → ∀ xs ∈ l.foldl (fun fr b => fromIn next.length b (succs next b) fr) fr, ∀ x ∈ xs, 0 ≤ x ∧ x < next.length := by
    intro l
    induction l with
    | nil => intro _ fr h; exact h
    | cons y ys ih => intro hl fr h; exact ih (fun x hx => hl x (List.mem_cons_of_mem _ hx)) _ (inner y (hl y List.mem_cons_self) _ fr h)
  refine outer _ (fun x hx => orderF_range next x (List.mem_of_mem_take hx)) _ ?_
  intro xs hx
  rw [List.eq_of_mem_replicate hx]
  simp

def AbovePost (w : World) (r : List Int) (e : Ending) (w' : World) : Prop := ∃ v, e = .returned v ∧ Kd.R (Kd.int .i64) 3 w' w.heap.size (fun _ => True) v r ∧ Below w.heap.size w w'

set_option maxRecDepth 100000 in
set_option maxHeartbeats 4000000 in
theorem above_any (w : World) (next : List (List Int)) (A : Option Addr) (c : Nat) (hc : next.length ≤ c) (hC : (Kd.slice 3 (Kd.int .i64)).C w A next.length next) (hn : next.length ≤ 100) (hM : ∀ b, (succs next b).length ≤ 400) (K : Nat) (r : List Int) (hr : aboveF K next = some r) :
    Calls Try.prog 17 #[.slice A next.length c] w (AbovePost w r) := by
  have hmk : ∀ W : World, (Instr.makeSlice 28 (.int .i64 (next.length : Int)) (.int .i64 (next.length : Int))).run Try.prog W = .ok (.slice (some ⟨W.heap.size, 0, none⟩) next.length next.length) (W.alloc (.cells (madeCells #[.int .i64 0] next.length) 3)) := by
    intro W
    exact run_make_row' 28 3 (.int .i64 0) 8 Try.underlying28 int_info rfl .i64 .i64 next.length (by omega) (by omega) W
  have hmk2 : ∀ W : World, (Instr.makeSlice 22 (.int .i64 (next.length : Int)) (.int .i64 (next.length : Int))).run Try.prog W = .ok (.slice (some ⟨W.heap.size, 0, none⟩) next.length next.length) (W.alloc (.cells (madeCells #[.slice none 0 0] next.length) 28)) := by
    intro W
    exact run_make_row' 22 28 (.slice none 0 0) 24 Try.underlying22 (by kernel_rfl) rfl .i64 .i64 next.length (by omega) (by omega) W
  have hmf : ∀ (fn : Fn) (first cap : Array Value) (w : World), (Instr.makeFunc fn first cap).run Try.prog w = .ok (.func fn first cap) w := fun _ _ _ _ => rfl
  have hsz : next.length * 24 ≤ 140737488351232 := by omega
  have HC := Lib.hid hC
  have HMM := Lib.hid hM
  have HR := Lib.hid hr
  clear hC hM hr
  go_enter Try.func17, Try.ntmps17
  go_wp2_with (go_at_call 15; refine (order_any w next A c hc HC.out hsz).mono ?_; rintro e w1 ⟨v, rfl, hR, hB⟩; obtain ⟨A1, c1, rfl, hc1, hC1⟩ := Kd.R_reads hR; have HB1 := Lib.hid hB; have HC1 := Lib.hid hC1; clear hR hB hC1)
  have hm : (orderF next).length ≤ 9223372036854775807 := HC1.out.2.1
  go_loopw [27] (fun vi wr => ∃ j : Nat, j ≤ (orderF next).length ∧ vi = .int .i64 j ∧ PlaceI w1 wr next.length (placeF next.length (orderF next) j)) (fun vi _ => (orderF next).length - (intOf vi).toNat)
  case atStart =>
    refine ⟨0, Nat.zero_le _, rfl, ?_, ?_, ((Below.refl _ _).alloc (Nat.le_refl _) _).alloc (by simp) _⟩
    · rw [made_nums]
      simp only [nb, heap_get, World.size_alloc]; (repeat (first | rw [if_pos trivial] | rw [if_pos (by omega)] | rw [if_neg (by omega)])); simp [placeF]
    · simp only [heap_get, World.size_alloc]; (repeat (first | rw [if_pos trivial] | rw [if_pos (by omega)] | rw [if_neg (by omega)]))
  case round =>
    obtain ⟨j, hj, rfl, hP⟩ := hrel
    by_cases hlt : j < (orderF next).length
    · obtain ⟨ad, rfl, cj0⟩ := Kd.at_int HC1.out j (by omega) (by omega)
      have hrange := orderF_range next (rd (orderF next) j) (by simp [rd, List.getElem?_eq_getElem hlt])
      have cj := pw_cell_below hP.bel cj0
      rw [Int.toNat_natCast] at cj
      have HPS := Lib.hid (placeF_succ next.length (orderF next) j hlt)
      obtain ⟨b, hb⟩ := Int.eq_ofNat_of_zero_le hrange.1
      rw [hb] at cj HPS hrange
      have r1 := hrange.1
      have r2 := hrange.2
      have cv := cell_of_one hP.var
      have ca := nb_cell hP.arr b (by rw [placeF_len]; omega)
      have cf := nb_free hP.arr b
      have HP := Lib.hid hP
      clear hP cj0 hb hrange hmk hmk2
      go_wp2_with fail
      go_roundw
      case rel => exact ⟨j + 1, by omega, by go_num, by rw [HPS.out]; exact nb_set HP.out.arr b j, blk_set HP.out.var (by show w1.heap.size + 1 ≠ w1.heap.size; omega), HP.out.bel.setCell (Nat.le_refl _) _⟩
      case measure => simp [intOf]; omega
    · obtain rfl : j = (orderF next).length := by omega
      obtain ⟨w2, rfl⟩ : ∃ w2 : World, w2 = wr := ⟨_, rfl⟩
      have HP := Lib.hid hP
      have HBW := Lib.hid (below_then HB1.out HB1.out.size hP.bel)
      have hm1 : (orderF next).length ≤ next.length := orderF_len next
      clear hP hlt hj
      go_wp2_with fail
      go_loopw [42] (fun vi wr => ∃ j : Nat, j ≤ (orderF next).length ∧ vi = .int .i64 j ∧ FromI w2 wr (fromF next j)) (fun vi _ => (orderF next).length - (intOf vi).toNat)
      case atStart =>
        exact ⟨0, Nat.zero_le _, rfl, ⟨_, FromW.start next.length (heap_alloc_new _ _)⟩, (Below.refl _ _).alloc (Nat.le_refl _) _⟩
      case round =>
        obtain ⟨j, hj, rfl, hF⟩ := hrel
        by_cases hlt : j < (orderF next).length
        · obtain ⟨ad, rfl, cj0⟩ := Kd.at_int HC1.out j (by omega) (by omega)
          have hrange := orderF_range next (rd (orderF next) j) (by simp [rd, List.getElem?_eq_getElem hlt])
          have hb1 : Below w1.heap.size w1 wr := below_then HP.out.bel HP.out.bel.size hF.2
          have cj := pw_cell_below hb1 cj0
          rw [Int.toNat_natCast] at cj
          have HFS := Lib.hid (fromF_succ next j hlt)
          obtain ⟨b, hb⟩ := Int.eq_ofNat_of_zero_le hrange.1
          rw [hb] at cj HFS hrange
          have r1 := hrange.1
          have r2 := hrange.2
          have hb0 : Below w.heap.size w wr := below_then HBW.out HBW.out.size hF.2
          obtain ⟨an, A0, c0, hA, cn0, hlc0, hC0⟩ := cell_nx HC.out b (by omega)
          subst hA
          have cn := pw_cell_below hb0 cn0
          have hm2 : (succs next b).length ≤ 9223372036854775807 := hC0.2.1
          have HC0 := Lib.hid hC0
          have HF := Lib.hid hF
          clear hF cj0 hb hrange hmk hmk2 hb1 hb0 cn0 hC0
          go_wp2_with fail
          obtain ⟨wo, rfl⟩ : ∃ wo : World, wo = wr := ⟨_, rfl⟩
          go_loopw [51] (fun vi wr => ∃ i : Nat, i ≤ (succs next b).length ∧ vi = .int .i64 i ∧ FromI w2 wr (fromIn next.length b ((succs next b).take i) (fromF next j))) (fun vi _ => (succs next b).length - (intOf vi).toNat)
          case atStart => exact ⟨0, Nat.zero_le _, rfl, HF.out⟩
          case round =>
            clear cj cn HF
            obtain ⟨i, hi, rfl, hF⟩ := hrel
            by_cases hlt2 : i < (succs next b).length
            · obtain ⟨ae, rfl, cy0⟩ := Kd.at_int HC0.out i (by omega) (by omega)
              obtain ⟨y, hy⟩ : ∃ y, y = rd (succs next b) i := ⟨_, rfl⟩
              have cy := pw_cell_below (below_then HBW.out HBW.out.size hF.2) cy0
              rw [Int.toNat_natCast, ← hy] at cy
              have hstep : fromIn next.length b ((succs next b).take (i + 1)) (fromF next j) = pushF next.length b (fromIn next.length b ((succs next b).take i) (fromF next j)) y := by
                rw [List.take_succ_eq_append_getElem hlt2, fromIn, fromIn, List.foldl_append, hy]
                simp [rd, List.getElem?_eq_getElem hlt2]
              have HST := Lib.hid hstep
              have hlens : Lens next.length (j * 400 + i) (fromIn next.length b ((succs next b).take i) (fromF next j)) := by
                have h := Lens.into (b : Int) ((succs next b).take i) (fromF_lens next 400 HMM.out j hj)
                rwa [List.length_take, Nat.min_eq_left (by omega)] at h
              have HLE := Lib.hid hlens
              have hj400 : j * 400 + i ≤ 40400 := by have := HMM.out b; omega
              clear hy cy0 hstep hlens
              by_cases hin : 0 ≤ y ∧ y < next.length
              · obtain ⟨y, rfl⟩ := Int.eq_ofNat_of_zero_le hin.1
                obtain ⟨⟨vs, hfw⟩, hb2⟩ := hF
                have hyl : y < (fromIn next.length b ((succs next b).take i) (fromF next j)).length := by rw [HLE.out.1]; omega
                have hyv : y < vs.length := by rw [hfw.len]; exact hyl
                obtain ⟨xs, hxs⟩ : ∃ xs, (fromIn next.length b ((succs next b).take i) (fromF next j))[y]? = some xs := ⟨_, List.getElem?_eq_getElem hyl⟩
                obtain ⟨v, hv⟩ : ∃ v, vs[y]? = some v := ⟨_, List.getElem?_eq_getElem hyv⟩
                have hxl : xs.length ≤ 40400 := by have := HLE.out.2 xs (List.mem_of_getElem? hxs); omega
                have cel := hfw.cell y v hv
                have fre := hfw.free y
                have hown := hfw.own y v xs hv hxs
                have hgs := lt_of_block hfw.blk
                obtain ⟨Av, cv, rfl⟩ := own_slice hown
                have hpush : pushF next.length b (fromIn next.length b ((succs next b).take i) (fromF next j)) y = (fromIn next.length b ((succs next b).take i) (fromF next j)).set y (xs ++ [(b : Int)]) := by
                  unfold pushF
                  rw [if_pos hin, Int.toNat_natCast, List.getD_eq_getElem?_getD, hxs]
                  rfl
                have HPU := Lib.hid hpush
                have HFW := Lib.hid hfw
                have HB2 := Lib.hid hb2
                have HO := Lib.hid hown
                have HV := Lib.hid hv
                have HX := Lib.hid hxs
                have y1 : (0 : Int) ≤ y := by omega
                have y2 : (y : Int) < next.length := hin.2
                have d1 : decide ((0 : Int) ≤ y) = true := decide_eq_true y1
                have d2 : decide ((y : Int) < next.length) = true := decide_eq_true y2
                clear hpush hfw hb2 hown hv hxs hin hyl hyv
                go_wp2_with (at_builtin; refine print_append_num (w0 := wr) (w2.heap.size + 1) rfl (.tmp 68) (.tmp 70) 28 3 .i64 8 rfl Try.underlying28 int_info (by decide) (.slice Av xs.length cv) xs b rfl rfl HO.out (Below.refl _ _) (by omega) (by omega) ?_)
                intro v1 w3 hown3 hb3 hg3 hat3
                obtain ⟨A3, c3, rfl⟩ := own_slice hown3
                have hblk3 : w3.heap[w2.heap.size]? = some (.cells vs.toArray 28 (0, 0)) := (hg3.block _ hgs (fun e => HFW.out.ne y _ HV.out e.symm)).trans HFW.out.blk
                have cel3 : w3.cell? ⟨w2.heap.size, y, none⟩ = some (.slice Av xs.length cv) := by simp [World.cell?, hblk3, HV.out]
                have fre3 : w3.frozen? ⟨w2.heap.size, y, none⟩ = false := by simp [World.frozen?, hblk3]
                have hput := HFW.out.put HFW.out y _ (.slice A3 (xs.length + 1) c3) xs (xs ++ [(b : Int)]) HV.out HX.out (by simpa using hown3) hg3 hat3
                rw [← HPU.out, ← HST.out] at hput
                have HPT := Lib.hid hput
                have HB3 := Lib.hid ((HB2.out.trans (hb3.mono (Nat.le_succ _))).setCell (p := ⟨w2.heap.size, y, none⟩) (Nat.le_refl _) (.slice A3 (xs.length + 1) c3))
                clear hown3 hb3 hg3 hat3 hblk3 hput
                go_wp2_with fail
                go_roundw
                case rel => exact ⟨i + 1, by omega, by go_num, ⟨_, HPT.out⟩, HB3.out⟩
                case measure => simp [intOf]; omega
              · have hpush : pushF next.length b (fromIn next.length b ((succs next b).take i) (fromF next j)) y = fromIn next.length b ((succs next b).take i) (fromF next j) := by
                  unfold pushF
                  rw [if_neg hin]
                have HF := Lib.hid hF
                have HPU := Lib.hid hpush
                clear hF hpush
                by_cases y1 : 0 ≤ y
                · have d1 : decide ((0 : Int) ≤ y) = true := decide_eq_true y1
                  have d2 : decide ((y : Int) < next.length) = false := decide_eq_false (by omega)
                  clear hin
                  go_wp2_with fail
                  go_roundw
                  case rel => exact ⟨i + 1, by omega, by go_num, by rw [HST.out, HPU.out]; exact HF.out⟩
                  case measure => simp [intOf]; omega
                · have d1 : decide ((0 : Int) ≤ y) = false := decide_eq_false y1
                  clear hin
                  go_wp2_with fail
                  go_roundw
                  case rel => exact ⟨i + 1, by omega, by go_num, by rw [HST.out, HPU.out]; exact HF.out⟩
                  case measure => simp [intOf]; omega
            · obtain rfl : i = (succs next b).length := by omega
              rw [List.take_length, ← HFS.out] at hF
              have HF := Lib.hid hF
              clear hF
              go_wp2_with fail
              go_roundw
              case rel => exact ⟨j + 1, by omega, by go_num, HF.out⟩
              case measure => simp [intOf]; omega
        · obtain rfl : j = (orderF next).length := by omega
          obtain ⟨w3, rfl⟩ : ∃ w3 : World, w3 = wr := ⟨_, rfl⟩
          obtain ⟨⟨vs, hfw⟩, hb2⟩ := hF
          have hs3 := lt_of_block hfw.blk
          have HFW := Lib.hid hfw
          have HB3 := Lib.hid (below_then HBW.out HBW.out.size hb2)
          have HB2 := Lib.hid hb2
          have HP3 := Lib.hid (show PlaceI w1 w3 next.length (placeF next.length (orderF next) (orderF next).length) from
            ⟨(hb2.block _ (lt_of_block HP.out.arr)).trans HP.out.arr, (hb2.block _ (lt_of_block HP.out.var)).trans HP.out.var, below_then HP.out.bel HP.out.bel.size hb2⟩)
          have hrep : ∀ W : World, W.heap[w3.heap.size]? = some (.cells #[.int .i64 (-1)] 3 (0, 0)) → Calls Try.prog 26 #[.slice (some ⟨w3.heap.size, 0, none⟩) 1 1, .int .i64 next.length] W (RepPost W next.length (-1)) := by
            intro W hW
            rcases Nat.eq_zero_or_pos next.length with h0 | h0
            · rw [h0]; exact repeat_zero W _ _
            · exact repeat_any W _ _ _ hW (by omega) h0
          have HREP := Lib.hid hrep
          clear hlt hj hfw hb2 hmk hmk2 hrep
          go_wp2_with (go_at_call 26; refine (HREP.out _ (heap_alloc_new _ _)).mono ?_; rintro e w4 ⟨g, rfl, hg, harr, hb4⟩)
          simp only [World.size_alloc] at hg
          have hr' : aboveL K (placeF next.length (orderF next) (orderF next).length) (fromF next (orderF next).length) (orderF next) K (List.replicate next.length (-1)) = some r := HR.out
          obtain ⟨pl, hpl⟩ : ∃ pl, pl = placeF next.length (orderF next) (orderF next).length := ⟨_, rfl⟩
          have hpll : pl.length = next.length := by rw [hpl]; exact placeF_len _ _ _
          rw [← hpl] at HP3 hr'
          have hfrl := (fromF_lens next 400 HMM.out (orderF next).length (Nat.le_refl _)).1
          have hfrr := fromF_mem next (orderF next).length
          obtain ⟨fr, hfr⟩ : ∃ fr, fr = fromF next (orderF next).length := ⟨_, rfl⟩
          rw [← hfr] at HFW hr' hfrl hfrr
          have hordr := orderF_range next
          obtain ⟨ord, hord⟩ : ∃ ord, ord = orderF next := ⟨_, rfl⟩
          rw [← hord] at hr' hordr HC1 hm hm1 hc1
          have hgs := lt_of_block harr
          have hS0 : SweepI w3 (w4.alloc (.cells #[.slice (some ⟨g, 0, none⟩) next.length next.length] 28)) g w4.heap.size next.length (List.replicate next.length (-1)) :=
            ⟨by rw [nb, heap_get, if_neg (by omega)]; exact harr, heap_alloc_new _ _, by simp, ((below_then ((Below.refl _ _).alloc (Nat.le_refl _) _) (by simp) hb4).alloc (by omega) _)⟩
          have HS0 := Lib.hid hS0
          have HRR := Lib.hid hr'
          have HPL := Lib.hid hpll
          have HFL := Lib.hid hfrl
          have HFM := Lib.hid hfrr
          have HOM := Lib.hid hordr
          have HX := Lib.hid (show w3.heap.size ≤ g ∧ w4.heap.size ≠ g from ⟨by omega, by omega⟩)
          clear hS0 hr' hpll hfrl hfrr hordr hb4 harr hg hgs HREP HR HP
          rw [← hord]
          clear hord hpl hfr
          go_loopg [14] K (fun m vm ws => ∃ (more : Bool) (ab : List Int), vm = .bool more ∧ SweepI w3 ws g w4.heap.size next.length ab ∧ Aside0 (if more = true then aboveL K pl fr ord m ab = some r else ab = r))
          case atStart => exact ⟨true, _, rfl, HS0.out, ⟨by rw [if_pos rfl]; exact HRR.out⟩⟩
          case round =>
            clear HS0 HRR
            obtain ⟨more, ab, rfl, hS, ⟨ha⟩⟩ := hrel
            cases more with
            | false =>
              rw [if_neg (by simp)] at ha
              subst ha
              have cv := cell_of_one hS.var
              have HS := Lib.hid hS
              clear hS
              go_wp2_with fail
              go_ret
              refine ⟨_, rfl, Kd.R_of_own ?_ (fun _ _ => trivial), below_then HB3.out HB3.out.size HS.out.bel⟩
              have := HS.out.len
              rw [← this]
              exact nb_own HS.out.arr (by have := HB3.out.size; have := HX.out.1; omega) (by unfold maxLen; omega)
            | true =>
              rw [if_pos rfl] at ha
              cases gk with
              | zero => simp [aboveL] at ha
              | succ m =>
                simp only [aboveL] at ha
                obtain ⟨⟨ab', more'⟩, hsw, hnext⟩ := Option.bind_eq_some_iff.1 ha
                dsimp only at hnext
                have HSW := Aside0.mk hsw
                have HNX := Aside0.mk hnext
                have HS := Lib.hid hS
                clear ha hsw hnext hS
                go_wp2_with fail
                obtain ⟨wo, rfl⟩ : ∃ wo : World, wo = wr := ⟨_, rfl⟩
                go_loopw [14, 83] (fun vm vi ws => ∃ (i : Nat) (more : Bool) (ab1 : List Int), i ≤ ord.length ∧ vm = .bool more ∧ vi = .int .i64 i ∧ SweepI w3 ws g w4.heap.size next.length ab1 ∧ Aside0 (sweepL K pl fr (ord.drop (max i 1)) ab1 more = some (ab', more'))) (fun _ vi _ => ord.length - (intOf vi).toNat)
                case atStart => exact ⟨0, false, ab, Nat.zero_le _, rfl, rfl, HS.out, ⟨by simpa using HSW.out⟩⟩
                case round =>
                  clear HS HSW
                  obtain ⟨i, more, ab1, hi, rfl, rfl, hS, HA⟩ := hrel
                  by_cases hlt : i < ord.length
                  · obtain ⟨ad, rfl, cj0⟩ := Kd.at_int HC1.out i (by omega) (by omega)
                    have hrange := HOM.out (rd ord i) (by simp [rd, List.getElem?_eq_getElem hlt])
                    have cj := pw_cell_below (below_then HP3.out.bel HP3.out.bel.size hS.bel) cj0
                    rw [Int.toNat_natCast] at cj
                    obtain ⟨b, hb⟩ := Int.eq_ofNat_of_zero_le hrange.1
                    rw [hb] at cj hrange
                    rcases Nat.eq_zero_or_pos i with h0 | hpos
                    · have HS := Lib.hid hS
                      have d0 : ((i : Int) == 0) = true := by simpa using h0
                      have H0 := Lib.hid h0
                      clear hS cj0 hb hrange h0
                      go_wp2_with fail
                      go_roundw
                      case rel => exact ⟨i + 1, more, ab1, by omega, rfl, by go_num, HS.out, ⟨by have := HA.out; rw [H0.out] at this ⊢; simpa using this⟩⟩
                      case measure => simp [intOf]; omega
                    · have hA := HA.out
                      rw [Nat.max_eq_left hpos, List.drop_eq_getElem_cons hlt] at hA
                      have hob : ord[i] = (b : Int) := by
                        have : rd ord i = ord[i] := by simp [rd, List.getElem?_eq_getElem hlt]
                        rw [← this]; exact hb
                      rw [hob] at hA
                      simp only [sweepL] at hA
                      obtain ⟨best, hbest, hA⟩ := Option.bind_eq_some_iff.1 hA
                      rw [Int.toNat_natCast] at hbest hA
                      have d0 : ((i : Int) == 0) = false := by rw [beq_eq_false_iff_ne]; omega
                      have hbn : b < next.length := by omega
                      have hfw := HFW.out.move (w' := wr) (fun k _ hk => hS.bel.block k hk)
                      have hbf : b < fr.length := by rw [HFL.out]; exact hbn
                      obtain ⟨v, hv⟩ : ∃ v, vs[b]? = some v := ⟨_, List.getElem?_eq_getElem (by rw [hfw.len]; exact hbf)⟩
                      obtain ⟨xs, hxs⟩ : ∃ xs, fr[b]? = some xs := ⟨_, List.getElem?_eq_getElem hbf⟩
                      have hxl : fr.getD b [] = xs := by rw [List.getD_eq_getElem?_getD, hxs]; rfl
                      have hxm := HFM.out xs (List.mem_of_getElem? hxs)
                      have hown := hfw.own b v xs hv hxs
                      have cel := hfw.cell b v hv
                      obtain ⟨Av, cv, rfl⟩ := own_slice hown
                      have hread := own_reads' hown
                      rw [hxl] at hbest
                      have hmx : xs.length ≤ 9223372036854775807 := hread.2.1
                      have HRD := Lib.hid hread
                      have HBEST := Aside0.mk hbest
                      have HSW := Aside0.mk hA
                      have HXM := Lib.hid hxm
                      have HS := Lib.hid hS
                      clear hA hbest hS cj0 hb hfw hbf hv hxs hxl hxm hown hread hob HA
                      have b1 := hrange.1
                      have b2 := hrange.2
                      clear hrange
                      go_wp2_with fail
                      have HSD := Lib.hid (fun nq => HS.out.drewN nq)
                      have HMW := Lib.hid (show ∀ nq, MeetW (w1.heap.size + 1) w4.heap.size w1.heap.size g next.length pl ab1 (wr.drewN nq) from fun nq =>
                        ⟨HPL.out, cell_of_one ((HS.out.bel.block _ (lt_of_block HP3.out.var)).trans HP3.out.var), cell_of_one HS.out.var,
                          fun q hq => nb_cell (w := wr) (g := w1.heap.size) (xs := pl) ((HS.out.bel.block _ (lt_of_block HP3.out.arr)).trans HP3.out.arr) q hq,
                          fun q hq => nb_cell (w := wr) HS.out.arr q (by rw [HS.out.len, ← HPL.out]; exact hq)⟩)
                      obtain ⟨wi, rfl⟩ : ∃ wi : World, wi = wr := ⟨_, rfl⟩
                      clear cj cel
                      go_loopw [17, 95] (fun vb vi ws => ∃ (j : Nat) (bst : Int), j ≤ xs.length ∧ vb = .int .i64 bst ∧ vi = .int .i64 j ∧ Aside0 (bestL K pl ab1 (xs.drop j) bst = some best) ∧ Drawn0 wi ws) (fun _ vi _ => xs.length - (intOf vi).toNat)
                      case atStart => exact ⟨0, -1, Nat.zero_le _, rfl, rfl, ⟨by simpa using HBEST.out⟩, Drawn0.refl _⟩
                      case round =>
                        clear HBEST
                        obtain ⟨j, bst, hj, rfl, rfl, HA, ⟨nq, rfl⟩⟩ := hrel
                        by_cases hltj : j < xs.length
                        · obtain ⟨ae, rfl, ce⟩ := HRD.out.at_ j (by omega) (by omega)
                          rw [Int.toNat_natCast] at ce
                          have hrg := HXM.out (rd xs j) (by simp [rd, List.getElem?_eq_getElem hltj])
                          have hA := HA.out
                          rw [List.drop_eq_getElem_cons hltj] at hA
                          have hpe : xs[j] = rd xs j := by simp [rd, List.getElem?_eq_getElem hltj]
                          rw [hpe] at hA
                          obtain ⟨p, hp⟩ := Int.eq_ofNat_of_zero_le hrg.1
                          rw [hp] at hA ce hrg
                          simp only [bestL] at hA
                          obtain ⟨bst', hst, hA⟩ := Option.bind_eq_some_iff.1 hA
                          have p1 := hrg.1
                          have p2 := hrg.2
                          have cv := cell_of_one HS.out.var
                          have ca := nb_cell HS.out.arr p (by rw [HS.out.len]; omega)
                          have HAA := Aside0.mk hA
                          have HST := Aside0.mk hst
                          clear hA hst hrg hpe hp HA
                          by_cases hc1' : ((p : Int) ≠ 0 ∧ rd ab1 p < 0)
                          · have hst := HST.out
                            unfold stepBest at hst
                            rw [if_pos hc1'] at hst
                            obtain rfl := Option.some.inj hst
                            have e1 : ((p : Int) != 0) = true := by simpa using hc1'.1
                            have e2 : decide (rd ab1 p < 0) = true := decide_eq_true hc1'.2
                            clear hst hc1' HST
                            go_wp2_with fail
                            go_roundw
                            case rel => exact ⟨j + 1, bst, by omega, rfl, by go_num, HAA, ⟨_, rfl⟩⟩
                            case measure => simp [intOf]; omega
                          · have hst := HST.out
                            unfold stepBest at hst
                            rw [if_neg hc1'] at hst
                            by_cases hb0 : bst < 0
                            · rw [if_pos hb0] at hst
                              obtain rfl := Option.some.inj hst
                              have e3 : decide (bst < 0) = true := decide_eq_true hb0
                              by_cases hp0 : (p : Int) = 0
                              · have e1 : ((p : Int) != 0) = false := by simpa using hp0
                                clear hst hc1' HST hb0 hp0
                                go_wp2_with fail
                                go_roundw
                                case rel => exact ⟨j + 1, _, by omega, rfl, by go_num, HAA, ⟨_, rfl⟩⟩
                                case measure => simp [intOf]; omega
                              · have e1 : ((p : Int) != 0) = true := by simpa using hp0
                                have e2 : decide (rd ab1 p < 0) = false := decide_eq_false (fun h => hc1' ⟨hp0, h⟩)
                                clear hst hc1' HST hb0 hp0
                                go_wp2_with fail
                                go_roundw
                                case rel => exact ⟨j + 1, _, by omega, rfl, by go_num, HAA, ⟨_, rfl⟩⟩
                                case measure => simp [intOf]; omega
                            · rw [if_neg hb0] at hst
                              have e3 : decide (bst < 0) = false := decide_eq_false hb0
                              have HMT := Aside0.mk hst
                              by_cases hp0 : (p : Int) = 0
                              · have e1 : ((p : Int) != 0) = false := by simpa using hp0
                                clear hst hc1' HST hb0 hp0
                                go_wp2_with (go_at_call 27; refine (meet_any _ _ _ _ _ _ _ _ _ _ _ _ (HMW.out nq) HMT.out).mono ?_; rintro e w' ⟨rfl, ⟨n2, rfl⟩⟩)
                                go_roundw
                                case rel => exact ⟨j + 1, _, by omega, rfl, by go_num, HAA, ⟨_, rfl⟩⟩
                                case measure => simp [intOf]; omega
                              · have e1 : ((p : Int) != 0) = true := by simpa using hp0
                                have e2 : decide (rd ab1 p < 0) = false := decide_eq_false (fun h => hc1' ⟨hp0, h⟩)
                                clear hst hc1' HST hb0 hp0
                                go_wp2_with (go_at_call 27; refine (meet_any _ _ _ _ _ _ _ _ _ _ _ _ (HMW.out nq) HMT.out).mono ?_; rintro e w' ⟨rfl, ⟨n2, rfl⟩⟩)
                                go_roundw
                                case rel => exact ⟨j + 1, _, by omega, rfl, by go_num, HAA, ⟨_, rfl⟩⟩
                                case measure => simp [intOf]; omega
                        · obtain rfl : j = xs.length := by omega
                          have hA := HA.out
                          rw [List.drop_of_length_le (Nat.le_refl _)] at hA
                          simp only [bestL] at hA
                          obtain rfl := Option.some.inj hA
                          have cv := cell_of_one HS.out.var
                          have ca := nb_cell HS.out.arr b (by rw [HS.out.len]; omega)
                          have cf := nb_free HS.out.arr b
                          by_cases hne : rd ab1 b = bst
                          · have hsw := HSW.out
                            rw [if_pos hne] at hsw
                            have e1 : (rd ab1 b != bst) = false := by simpa using hne
                            have HSX := Aside0.mk hsw
                            clear hsw hne hA HA HSW
                            go_wp2_with fail
                            go_roundw
                            case rel => exact ⟨i + 1, more, ab1, by omega, rfl, by go_num, HSD.out nq, ⟨by rw [Nat.max_eq_left (by omega)]; exact HSX.out⟩⟩
                            case measure => simp [intOf]; omega
                          · have hsw := HSW.out
                            rw [if_neg hne] at hsw
                            have e1 : (rd ab1 b != bst) = true := by simpa using hne
                            have HSX := Aside0.mk hsw
                            clear hsw hne hA HA HSW
                            go_wp2_with fail
                            go_roundw
                            case rel => exact ⟨i + 1, true, _, by omega, rfl, by go_num, (HSD.out nq).set HX.out.1 HX.out.2 b bst, ⟨by rw [Nat.max_eq_left (by omega)]; exact HSX.out⟩⟩
                            case measure => simp [intOf]; omega
                  · obtain rfl : i = ord.length := by omega
                    have hA := HA.out
                    rw [List.drop_of_length_le (by omega)] at hA
                    simp only [sweepL, Option.some.injEq, Prod.mk.injEq] at hA
                    obtain ⟨rfl, rfl⟩ := hA
                    have HS := Lib.hid hS
                    clear hS
                    go_wp2_with fail
                    go_roundg m
                    case measure => omega
                    case rel => exact ⟨more, ab1, rfl, HS.out, ⟨by have h := HNX.out; cases more <;> simpa using h⟩⟩
end Go.Proofs.Ytnlapancooecjaa
