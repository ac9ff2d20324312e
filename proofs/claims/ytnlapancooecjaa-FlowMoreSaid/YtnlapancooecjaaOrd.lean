/- The contracts of flow.Reach and flow.Order and of their closures. Conditions: the graph's outer slice takes at most 2^47 - 4096 bytes. -/
import Derived.Test.YtnlapancooecjaaDeep
import Derived.Test.YtnlapancooecjaaPFlowReachx1
import Derived.Deep.RegionHeld3
import Derived.Deep.DeepCutAuto
namespace Go.Proofs.Ytnlapancooecjaa
set_option linter.unusedVariables false
set_option linter.unusedSimpArgs false
open Go.RowKit Go.Proofs.YtnlapancooecjaaW.PrintWords

/-! ### Reach -/
def marks (s : List Bool) (L : List Int) : List Bool := L.foldl (fun s b => s.set b.toNat true) s
theorem marks_len (L : List Int) : ∀ s : List Bool, (marks s L).length = s.length := by
  induction L with
  | nil => intro s; rfl
  | cons x xs ih => intro s; simp only [marks, List.foldl_cons]; exact (ih _).trans (by simp)
theorem marks_snoc (s : List Bool) (L : List Int) (b : Int) : marks s (L ++ [b]) = (marks s L).set b.toNat true := by simp [marks]

structure ReachI (B : Nat) (n : Nat) (L : List Int) (w : World) : Prop where
  arr : w.heap[B]? = some (.cells (bools (marks (List.replicate n false) L)).toArray 4 (0, 0))
  var : w.heap[B+1]? = some (.cells #[.slice (some ⟨B, 0, none⟩) n n] 25 (0, 0))

theorem reach1_any (B : Nat) (n : Nat) (L : List Int) (b : Nat) (w : World) (hb : b < n) (h : ReachI B n L w) :
    Calls Try.prog 22 #[.int .i64 b, .pointer (some ⟨B+1, 0, none⟩)] w (fun e w' => isRet e ∧ w.setCell ⟨B, b, none⟩ (.bool true) = w') := by
  have c1 := cell_of_one h.var
  have hl : b < (marks (List.replicate n false) L).length := by rw [marks_len]; simpa using hb
  have c2 : w.cell? ⟨B, b, none⟩ = some (.bool (marks (List.replicate n false) L)[b]) := by simp [World.cell?, h.arr, bools, hl]
  have c3 : w.frozen? ⟨B, b, none⟩ = false := by simp [World.frozen?, h.arr]
  have h1 : (0 : Int) ≤ b := by omega
  have h2 : (b : Int) < n := by omega
  clear h
  go_enter Try.func22, Try.ntmps22
  go_wp2_with fail
  go_end0
  exact ⟨rfl, rfl⟩

theorem reachI_set {B n : Nat} {L : List Int} {w : World} (h : ReachI B n L w) (b : Nat) : ReachI B n (L ++ [(b : Int)]) (w.setCell ⟨B, b, none⟩ (.bool true)) where
  arr := by
    rw [marks_snoc]
    simp only [World.setCell, Array.getElem?_modify, if_true, h.arr, Option.map_some]
    simp [bools, List.map_set]
  var := by rw [Below.heap_setCell _ _ _ _ (by show B + 1 ≠ B; omega)]; exact h.var

theorem goes22 : ∀ args w, (callFunc 22 args).run Try.prog w = .ok (.enter 22 args) w := by
  intro args w; kernel_rfl
theorem goes24 : ∀ args w, (callFunc 24 args).run Try.prog w = .ok (.enter 24 args) w := by
  intro args w; kernel_rfl
theorem goes28 : ∀ args w, (callFunc 28 args).run Try.prog w = .ok (.enter 28 args) w := by
  intro args w; kernel_rfl

theorem reachOut (w0 : World) (n Bd : Nat) (B : Nat) (hB : w0.heap.size ≤ B) (hd : B + 2 ≤ Bd) : OutOk Bd w0 n 22 #[.pointer (some ⟨B+1, 0, none⟩)] (ReachI B n) where
  goes := goes22
  step := by
    intro L b w hb hL hz hbel hI
    refine (reach1_any B n L b w hb hI).mono ?_
    rintro e w' ⟨he, rfl⟩
    exact ⟨he, reachI_set hI b, hbel.setCell hB _, by simp, fun i h1 h2 => Below.heap_setCell _ _ _ _ (by show i ≠ B; omega)⟩
  stable := by
    intro L w w' h hz hk
    exact ⟨by rw [hk B (lt_of_block h.arr) (by omega)]; exact h.arr, by rw [hk (B+1) (lt_of_block h.var) (by omega)]; exact h.var⟩

def reachF (next : List (List Int)) : List Bool := marks (List.replicate next.length false) (deepF next (-1))

theorem own_block {w : World} {g base n : Nat} {xs : List Bool} (h : w.heap[g]? = some (.cells (bools xs).toArray 4 (0, 0))) (hn : xs.length = n) (hb : base ≤ g) (hm : n ≤ maxLen) : w.ownsRow base 4 1 (.slice (some ⟨g, 0, none⟩) n n) xs.length (encs Value.bool xs) := by
  subst hn
  refine ⟨by simp [encs], .inr ⟨g, xs.length, _, rfl, hb, h, Nat.le_refl _, hm, by simp [bools], ?_⟩⟩
  simp only [bools, encs, Nat.mul_one]
  exact List.take_of_length_le (by simp)

set_option maxHeartbeats 1000000 in
theorem reach_any (w : World) (next : List (List Int)) (A : Option Addr) (c : Nat) (hc : next.length ≤ c) (hC : (Kd.slice 3 (Kd.int .i64)).C w A next.length next) (hsz : next.length * 24 ≤ 140737488351232) :
    Calls Try.prog 12 #[.slice A next.length c] w (fun e w' => ∃ v, e = .returned v ∧ Kd.R Kd.bool 4 w' w.heap.size (fun _ => True) v (reachF next) ∧ Below w.heap.size w w') := by
  have hmk : ∀ W : World, (Instr.makeSlice 25 (.int .i64 (next.length : Int)) (.int .i64 (next.length : Int))).run Try.prog W = .ok (.slice (some ⟨W.heap.size, 0, none⟩) next.length next.length) (W.alloc (.cells (madeCells #[.bool false] next.length) 4)) := by
    intro W
    exact run_make_row' 25 4 (.bool false) 1 Try.underlying25 (by kernel_rfl) rfl .i64 .i64 next.length (by omega) (by omega) W
  have hmf : ∀ (fn : Fn) (first cap : Array Value) (w : World), (Instr.makeFunc fn first cap).run Try.prog w = .ok (.func fn first cap) w := fun _ _ _ _ => rfl
  have hB1 : Below w.heap.size w ((w.alloc (.cells (madeCells #[.bool false] next.length) 4)).alloc (.cells #[.slice (some ⟨w.heap.size, 0, none⟩) next.length next.length] 25)) :=
    ((Below.refl _ _).alloc (Nat.le_refl _) _).alloc (by simp) _
  have hO := reachOut w next.length (w.heap.size + 2) w.heap.size (Nat.le_refl _) (Nat.le_refl _)
  have HB1 := Lib.hid hB1
  have HO := Lib.hid hO
  have HC := Lib.hid hC
  clear hB1 hO hC
  go_enter Try.func12, Try.ntmps12
  go_wp2_with fail
  refine (deep_any w _ next A c hc HC.out HB1.out hsz (-1) 22 #[.pointer (some ⟨w.heap.size+1, 0, none⟩)] (ReachI w.heap.size next.length) (by simp only [World.size_alloc]; exact HO.out) ?_).mono ?_
  · refine ⟨?_, ?_⟩
    · rw [made_bools]; simp only [heap_get, World.size_alloc]; (repeat (first | rw [if_pos trivial] | rw [if_pos (by omega)] | rw [if_neg (by omega)])); rfl
    · simp only [heap_get, World.size_alloc]; (repeat (first | rw [if_pos trivial] | rw [if_pos (by omega)] | rw [if_neg (by omega)]))
  rintro e w' ⟨he, hI', hB'⟩
  obtain rfl : e = _ := he
  have c1 := cell_of_one hI'.var
  have HI' := Lib.hid hI'
  have HB' := Lib.hid hB'
  clear hI' hB'
  go_wp2_with fail
  go_ret
  refine ⟨_, rfl, ?_, HB'.out⟩
  refine Kd.R_of_own ?_ (fun _ _ => trivial)
  exact own_block HI'.out.arr (by unfold reachF; rw [marks_len]; simp) (Nat.le_refl _) (by unfold maxLen; omega)

/-! ### Order -/
def outOk (Bd B : Nat) (k : Nat) : Prop := ¬ (Bd ≤ k ∧ k < Bd + 6) ∧ k ≠ B
structure OrderI (Bd B base : Nat) (L : List Int) (w : World) (v : Value) : Prop where
  var : w.heap[B]? = some (.cells #[v] 28 (0, 0))
  row : Kd.R (Kd.int .i64) 3 w base (outOk Bd B) v L

theorem int_info : (Try.prog.info? 3).map (fun i => (i.zero, i.size, i.bytes)) = some (some (.int .i64 0), 1, 8) := by kernel_rfl

set_option maxHeartbeats 1000000 in
theorem order1_any (w0 : World) (Bd B : Nat) (L : List Int) (b : Int) (w : World) (v : Value) (hB : w0.heap.size ≤ B) (hd : B < Bd) (hz : Bd + 6 ≤ w.heap.size) (hL : (L.length + 1) * 8 ≤ 140737488355328) (hbel : Below w0.heap.size w0 w) (h : OrderI Bd B w0.heap.size L w v) :
    Calls Try.prog 24 #[.int .i64 b, .pointer (some ⟨B, 0, none⟩)] w (fun e w' => isRet e ∧ (∃ v', OrderI Bd B w0.heap.size (L ++ [b]) w' v') ∧ Below w0.heap.size w0 w' ∧ w.heap.size ≤ w'.heap.size ∧ ∀ i, Bd ≤ i → i < Bd + 6 → w'.heap[i]? = w.heap[i]?) := by
  have c1 := cell_of_one h.var
  have H := Lib.hid h
  have HB := Lib.hid hbel
  clear h hbel
  go_enter Try.func24, Try.ntmps24
  go_wp2_with (at_builtin; refine Kd.R_append (Kd.int .i64) (w0 := w0) w0.heap.size rfl (.tmp 3) (.tmp 5) 28 3 (.int .i64 0) 8 rfl Try.underlying28 int_info rfl (by decide) (by decide) v L b [.int .i64 b] (outOk Bd B) (fun _ => False) rfl rfl rfl (fun _ hk => hk.elim) (fun k hk => ⟨by omega, by omega⟩) H.out.row HB.out HB.out.size hL ?_)
  intro v1 w1 hR hB1 hg hat
  obtain ⟨A1, cc1, rfl⟩ := Kd.R_slice hR
  simp only [List.length_append, List.length_cons, List.length_nil, Nat.zero_add] at hR
  have hvar : w1.heap[B]? = some (.cells #[v] 28 (0, 0)) := (hg.block B (by omega) (fun e => (H.out.row.1 B e.symm).2 rfl)).trans H.out.var
  have c2 := cell_of_one hvar
  have c3 := free_of_one hvar
  have HV := Lib.hid hvar
  have HR := Lib.hid hR
  have HB1 := Lib.hid hB1
  have HG := Lib.hid hg
  clear hvar hR hB1 hg hat
  go_wp2_with fail
  go_end0
  refine ⟨rfl, ⟨_, one_setCell HV.out, ?_⟩, HB1.out.setCell hB _, by simpa using HG.out.size, ?_⟩
  · exact Kd.R_far (p := ⟨B, 0, none⟩) HR.out (fun k hk => hk.2) _
  · intro i h1 h2
    rw [Below.heap_setCell _ _ _ _ (by show i ≠ B; omega)]
    exact HG.out.block i (by omega) (fun e => (H.out.row.1 i e.symm).1 ⟨h1, h2⟩)

theorem orderOut (w0 : World) (n Bd : Nat) (B : Nat) (hB : w0.heap.size ≤ B) (hd : B < Bd) (hn : n * 8 ≤ 140737488355328) : OutOk Bd w0 n 24 #[.pointer (some ⟨B, 0, none⟩)] (fun L w => ∃ v, OrderI Bd B w0.heap.size L w v) where
  goes := goes24
  step := by
    rintro L b w hb hL hz hbel ⟨v, hI⟩
    exact order1_any w0 Bd B L b w v hB hd hz (by omega) hbel hI
  stable := by
    rintro L w w' ⟨v, h⟩ hz hk
    exact ⟨v, by rw [hk B (lt_of_block h.var) (by omega)]; exact h.var, Kd.R_step h.row (fun k ho hlt => hk k hlt ho.1)⟩

/-- Reverse, as the print has it. -/
theorem set_mid {α : Type} (xs zs : List α) (a b : α) : (xs ++ a :: zs).set xs.length b = xs ++ b :: zs := by
  induction xs with
  | nil => rfl
  | cons x xs ih => simp [ih]
theorem rd_mid (xs zs : List Int) (a : Int) : rd (xs ++ a :: zs) (xs.length : Int) = a := by simp [rd]

theorem rev_loop (k : Nat) : ∀ (xs ys zs : List Int), ys.length < k → xs.length + ys.length + zs.length ≤ 9223372036854775807 →
    PFlowReach.slices_Reverse_int_int.l0 k (xs ++ ys ++ zs) (xs.length : Int) ((xs.length : Int) + ys.length - 1) = some (xs ++ ys.reverse ++ zs) := by
  induction k with
  | zero => intro xs ys zs h; omega
  | succ k ih =>
    intro xs ys zs hk hm
    simp only [PFlowReach.slices_Reverse_int_int.l0]
    by_cases h2 : (xs.length : Int) < (xs.length : Int) + ys.length - 1
    · rw [if_pos h2]
      obtain ⟨a, ys1, rfl⟩ : ∃ a ys1, ys = a :: ys1 := by
        cases ys with
        | nil => simp at h2; omega
        | cons a l => exact ⟨a, l, rfl⟩
      obtain ⟨m, b, rfl⟩ : ∃ m b, ys1 = m ++ [b] := by
        rcases List.eq_nil_or_concat ys1 with rfl | ⟨m, b, h⟩
        · simp at h2
        · exact ⟨m, b, by simpa using h⟩
      have e0 : xs ++ (a :: (m ++ [b])) ++ zs = xs ++ a :: (m ++ b :: zs) := by simp
      have hl : (xs.length : Int) + (a :: (m ++ [b])).length - 1 = ((xs ++ a :: m).length : Int) := by simp; omega
      have r1 : rd (xs ++ a :: (m ++ b :: zs)) ((xs ++ a :: m).length : Int) = b := by
        have := rd_mid (xs ++ a :: m) zs b
        simpa using this
      have r2 : rd (xs ++ a :: (m ++ b :: zs)) (xs.length : Int) = a := rd_mid xs _ a
      have s1 : (xs ++ a :: (m ++ b :: zs)).set xs.length b = xs ++ b :: (m ++ b :: zs) := set_mid _ _ _ _
      have s2 : (xs ++ b :: (m ++ b :: zs)).set (xs ++ a :: m).length a = (xs ++ [b]) ++ m ++ (a :: zs) := by
        have := set_mid (xs ++ b :: m) zs b a
        simp only [List.length_append, List.length_cons, List.append_assoc, List.cons_append] at this ⊢
        rw [this]
        simp
      rw [hl, e0]
      rw [if_pos (by omega), if_pos (by simp; omega), if_pos (by omega), if_pos (by simp; omega), r1, r2]
      rw [Int.toNat_natCast, Int.toNat_natCast, s1, s2]
      have w1 : wrap64 ((xs.length : Int) + 1) = ((xs ++ [b]).length : Int) := by
        simp only [List.length_append, List.length_cons, List.length_nil] at hm ⊢
        unfold wrap64
        omega
      have w2 : wrap64 (((xs ++ a :: m).length : Int) - 1) = ((xs ++ [b]).length : Int) + m.length - 1 := by
        simp only [List.length_append, List.length_cons, List.length_nil] at hm ⊢
        unfold wrap64
        omega
      rw [w1, w2, ih (xs ++ [b]) m (a :: zs) (by simp at hk; omega) (by simp at hm ⊢; omega)]
      simp
    · rw [if_neg h2]
      have : ys.length ≤ 1 := by omega
      match ys, this with
      | [], _ => simp
      | [a], _ => simp

theorem rev_f (k : Nat) (ys : List Int) (hk : ys.length < k) (hm : ys.length ≤ 9223372036854775807) : PFlowReach.slices_Reverse_int_int.f k ys = some ys.reverse := by
  have h := rev_loop k [] ys [] hk (by simpa using hm)
  simp only [List.nil_append, List.append_nil, List.length_nil] at h
  unfold PFlowReach.slices_Reverse_int_int.f
  have e : wrap64 ((ys.length : Int) - 1) = ((0 : Nat) : Int) + ys.length - 1 := by unfold wrap64; omega
  rw [e]
  exact h

def orderF (next : List (List Int)) : List Int := (deepF next (-1)).reverse

theorem deepF_len (next : List (List Int)) (barred : Int) : (deepF next barred).length ≤ next.length := by
  obtain ⟨_, h, _⟩ := visit_inv next barred (next.length + 1) 0 (List.replicate next.length false, []) (by simp)
  simp only [List.length_nil, unseen_new] at h
  unfold deepF
  omega

set_option maxHeartbeats 1000000 in
theorem order_any (w : World) (next : List (List Int)) (A : Option Addr) (c : Nat) (hc : next.length ≤ c) (hC : (Kd.slice 3 (Kd.int .i64)).C w A next.length next) (hsz : next.length * 24 ≤ 140737488351232) :
    Calls Try.prog 15 #[.slice A next.length c] w (fun e w' => ∃ v, e = .returned v ∧ Kd.R (Kd.int .i64) 3 w' w.heap.size (fun _ => True) v (orderF next) ∧ Below w.heap.size w w') := by
  have hmf : ∀ (fn : Fn) (first cap : Array Value) (w : World), (Instr.makeFunc fn first cap).run Try.prog w = .ok (.func fn first cap) w := fun _ _ _ _ => rfl
  have hB1 : Below w.heap.size w (w.alloc (.cells #[.slice none 0 0] 28)) := (Below.refl _ _).alloc (Nat.le_refl _) _
  have hO := orderOut w next.length (w.heap.size + 1) w.heap.size (Nat.le_refl _) (by omega) (by omega)
  have HB1 := Lib.hid hB1
  have HO := Lib.hid hO
  have HC := Lib.hid hC
  clear hB1 hO hC
  go_enter Try.func15, Try.ntmps15
  go_wp2_with fail
  refine (deep_any w _ next A c hc HC.out HB1.out hsz (-1) 24 #[.pointer (some ⟨w.heap.size, 0, none⟩)] _ (by simp only [World.size_alloc]; exact HO.out) ?_).mono ?_
  · exact ⟨_, heap_alloc_new _ _, Kd.R_nil _ _ _ _ _⟩
  rintro e w1 ⟨he, ⟨v, hI⟩, hB1'⟩
  obtain rfl : e = _ := he
  have c1 := cell_of_one hI.var
  have HI := Lib.hid hI
  have HB2 := Lib.hid hB1'
  clear hI hB1'
  go_wp2_with fail
  refine (PFlowReach.slices_Reverse_int_int.calls (next.length + 1) _ v (deepF next (-1)) (orderF next) w w1 HB2.out HI.out.row (rev_f _ _ (by have := deepF_len next (-1); omega) (by have := deepF_len next (-1); omega))).mono ?_
  rintro e w2 ⟨rfl, hR, hB3, hK⟩
  have hvar2 : w2.heap[w.heap.size]? = some (.cells #[v] 28 (0, 0)) := (hK.2 _ (lt_of_block HI.out.var) (fun h => h.2 rfl)).trans HI.out.var
  have c2 := cell_of_one hvar2
  have HR := Lib.hid hR
  have HB3 := Lib.hid hB3
  clear hvar2 hR hB3 hK
  go_wp2_with fail
  go_ret
  exact ⟨_, rfl, Kd.R_mono HR.out (fun _ _ => trivial), HB3.out⟩
end Go.Proofs.Ytnlapancooecjaa
