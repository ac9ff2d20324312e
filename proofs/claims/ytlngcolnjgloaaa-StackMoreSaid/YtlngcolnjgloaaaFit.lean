/- stack.fits says yes of an instruction that may be. Conditions: it may be. -/
import Derived.Test.YtlngcolnjgloaaaDep
import Derived.BigQuiet
namespace Go.Proofs.Ytlngcolnjgloaaa
set_option linter.unusedVariables false
set_option linter.unusedSimpArgs false
open Go.RowKit Go.Proofs.YtlngcolnjgloaaaW.PrintWords PStackRuns

def YesPost (w : World) (e : Ending) (w' : World) : Prop := e = .returned (.bool true) ∧ Below w.heap.size w w'

theorem within_yes (a n : Int) (w : World) (h0 : 0 ≤ a) (h1 : a < n) : Calls Try.prog 53 #[.int .i64 a, .int .i64 n] w fun e w' => e = .returned (.bool true) ∧ Drawn0 w w' :=
  stack_within.calls a n true w (by unfold stack_within.f; simp [h0, h1])

theorem drawn_below {w w' : World} (h : Drawn0 w w') : Below w.heap.size w w' := by
  obtain ⟨m, rfl⟩ := h
  exact pw_below_drewN (Below.refl _ _) m

set_option maxHeartbeats 1000000 in
set_option maxRecDepth 100000 in
theorem fits_push (w : World) (sw : Int) (SA : Option Addr) (fs : List S28) (sc : Nat) (f : Int) (n : Int) :
    Calls Try.prog 40 #[.agg #[.int .i64 sw, .slice SA fs.length sc], .int .i64 f, .agg #[.int .i64 1, .int .i64 0, .int .i64 0, .int .u32 n]] w (YesPost w) := by
  go_enter Try.func40, Try.ntmps40
  go_wp2_with fail
  go_ret
  refine ⟨rfl, ?_⟩
  repeat (first | exact Below.refl _ _ | (refine Below.setCell ?_ (by first | (simp; done) | (simp; omega)) _) | (refine Below.alloc ?_ (by first | (simp; done) | (simp; omega)) _) | refine pw_below_drewN ?_ _ | refine below_drew ?_)

set_option maxHeartbeats 1000000 in
set_option maxRecDepth 100000 in
theorem fits_load (w : World) (sw : Int) (SA : Option Addr) (fs : List S28) (sc : Nat) (f : Int) (a : Int) (h0 : 0 ≤ a) (h1 : a < sw) :
    Calls Try.prog 40 #[.agg #[.int .i64 sw, .slice SA fs.length sc], .int .i64 f, .agg #[.int .i64 2, .int .i64 a, .int .i64 0, .int .u32 0]] w (YesPost w) := by
  go_enter Try.func40, Try.ntmps40
  go_wp2_with (go_at_call 53; refine (within_yes _ _ _ h0 h1).mono ?_; rintro e w1 ⟨rfl, ⟨m1, rfl⟩⟩)
  go_ret
  refine ⟨rfl, ?_⟩
  repeat (first | exact Below.refl _ _ | (refine Below.setCell ?_ (by first | (simp; done) | (simp; omega)) _) | (refine Below.alloc ?_ (by first | (simp; done) | (simp; omega)) _) | refine pw_below_drewN ?_ _ | refine below_drew ?_)

set_option maxHeartbeats 1000000 in
set_option maxRecDepth 100000 in
theorem fits_store (w : World) (sw : Int) (SA : Option Addr) (fs : List S28) (sc : Nat) (f : Int) (a : Int) (h0 : 0 ≤ a) (h1 : a < sw) :
    Calls Try.prog 40 #[.agg #[.int .i64 sw, .slice SA fs.length sc], .int .i64 f, .agg #[.int .i64 3, .int .i64 a, .int .i64 0, .int .u32 0]] w (YesPost w) := by
  go_enter Try.func40, Try.ntmps40
  go_wp2_with (go_at_call 53; refine (within_yes _ _ _ h0 h1).mono ?_; rintro e w1 ⟨rfl, ⟨m1, rfl⟩⟩)
  go_ret
  refine ⟨rfl, ?_⟩
  repeat (first | exact Below.refl _ _ | (refine Below.setCell ?_ (by first | (simp; done) | (simp; omega)) _) | (refine Below.alloc ?_ (by first | (simp; done) | (simp; omega)) _) | refine pw_below_drewN ?_ _ | refine below_drew ?_)

set_option maxHeartbeats 1000000 in
set_option maxRecDepth 100000 in
theorem fits_nott (w : World) (sw : Int) (SA : Option Addr) (fs : List S28) (sc : Nat) (f : Int)  :
    Calls Try.prog 40 #[.agg #[.int .i64 sw, .slice SA fs.length sc], .int .i64 f, .agg #[.int .i64 7, .int .i64 0, .int .i64 0, .int .u32 0]] w (YesPost w) := by
  go_enter Try.func40, Try.ntmps40
  go_wp2_with fail
  go_ret
  refine ⟨rfl, ?_⟩
  repeat (first | exact Below.refl _ _ | (refine Below.setCell ?_ (by first | (simp; done) | (simp; omega)) _) | (refine Below.alloc ?_ (by first | (simp; done) | (simp; omega)) _) | refine pw_below_drewN ?_ _ | refine below_drew ?_)

set_option maxHeartbeats 1000000 in
set_option maxRecDepth 100000 in
theorem fits_ret (w : World) (sw : Int) (SA : Option Addr) (fs : List S28) (sc : Nat) (f : Int)  :
    Calls Try.prog 40 #[.agg #[.int .i64 sw, .slice SA fs.length sc], .int .i64 f, .agg #[.int .i64 11, .int .i64 0, .int .i64 0, .int .u32 0]] w (YesPost w) := by
  go_enter Try.func40, Try.ntmps40
  go_wp2_with fail
  go_ret
  refine ⟨rfl, ?_⟩
  repeat (first | exact Below.refl _ _ | (refine Below.setCell ?_ (by first | (simp; done) | (simp; omega)) _) | (refine Below.alloc ?_ (by first | (simp; done) | (simp; omega)) _) | refine pw_below_drewN ?_ _ | refine below_drew ?_)

set_option maxHeartbeats 1000000 in
set_option maxRecDepth 100000 in
theorem fits_get (w : World) (sw : Int) (SA : Option Addr) (fs : List S28) (sc : Nat) (f : Int)  :
    Calls Try.prog 40 #[.agg #[.int .i64 sw, .slice SA fs.length sc], .int .i64 f, .agg #[.int .i64 12, .int .i64 0, .int .i64 0, .int .u32 0]] w (YesPost w) := by
  go_enter Try.func40, Try.ntmps40
  go_wp2_with fail
  go_ret
  refine ⟨rfl, ?_⟩
  repeat (first | exact Below.refl _ _ | (refine Below.setCell ?_ (by first | (simp; done) | (simp; omega)) _) | (refine Below.alloc ?_ (by first | (simp; done) | (simp; omega)) _) | refine pw_below_drewN ?_ _ | refine below_drew ?_)

set_option maxHeartbeats 1000000 in
set_option maxRecDepth 100000 in
theorem fits_put (w : World) (sw : Int) (SA : Option Addr) (fs : List S28) (sc : Nat) (f : Int)  :
    Calls Try.prog 40 #[.agg #[.int .i64 sw, .slice SA fs.length sc], .int .i64 f, .agg #[.int .i64 13, .int .i64 0, .int .i64 0, .int .u32 0]] w (YesPost w) := by
  go_enter Try.func40, Try.ntmps40
  go_wp2_with fail
  go_ret
  refine ⟨rfl, ?_⟩
  repeat (first | exact Below.refl _ _ | (refine Below.setCell ?_ (by first | (simp; done) | (simp; omega)) _) | (refine Below.alloc ?_ (by first | (simp; done) | (simp; omega)) _) | refine pw_below_drewN ?_ _ | refine below_drew ?_)

set_option maxHeartbeats 1000000 in
set_option maxRecDepth 100000 in
theorem fits_op (w : World) (sw : Int) (SA : Option Addr) (fs : List S28) (sc : Nat) (f : Int) (a : Int) (h0 : 4 ≤ a) (h1 : a ≤ 15) :
    Calls Try.prog 40 #[.agg #[.int .i64 sw, .slice SA fs.length sc], .int .i64 f, .agg #[.int .i64 6, .int .i64 a, .int .i64 0, .int .u32 0]] w (YesPost w) := by
  go_enter Try.func40, Try.ntmps40
  have d0 : decide ((4 : Int) ≤ a) = true := decide_eq_true h0
  have d1 : decide (a ≤ (15 : Int)) = true := decide_eq_true h1
  go_wp2_with fail
  go_ret
  refine ⟨rfl, ?_⟩
  repeat (first | exact Below.refl _ _ | (refine Below.setCell ?_ (by first | (simp; done) | (simp; omega)) _) | (refine Below.alloc ?_ (by first | (simp; done) | (simp; omega)) _) | refine pw_below_drewN ?_ _ | refine below_drew ?_)

set_option maxHeartbeats 1000000 in
set_option maxRecDepth 100000 in
theorem fits_call (w : World) (sw : Int) (SA : Option Addr) (fs : List S28) (sc : Nat) (f : Int) (a : Int) (h0 : 0 ≤ a) (h1 : a < f) :
    Calls Try.prog 40 #[.agg #[.int .i64 sw, .slice SA fs.length sc], .int .i64 f, .agg #[.int .i64 10, .int .i64 a, .int .i64 0, .int .u32 0]] w (YesPost w) := by
  go_enter Try.func40, Try.ntmps40
  go_wp2_with (go_at_call 53; refine (within_yes _ _ _ h0 h1).mono ?_; rintro e w1 ⟨rfl, ⟨m1, rfl⟩⟩)
  go_ret
  refine ⟨rfl, ?_⟩
  repeat (first | exact Below.refl _ _ | (refine Below.setCell ?_ (by first | (simp; done) | (simp; omega)) _) | (refine Below.alloc ?_ (by first | (simp; done) | (simp; omega)) _) | refine pw_below_drewN ?_ _ | refine below_drew ?_)

set_option maxHeartbeats 1000000 in
set_option maxRecDepth 100000 in
theorem fits_jump (w : World) (sw : Int) (SA : Option Addr) (fs : List S28) (sc : Nat) (f a : Int) (hC : k28.C w SA fs.length fs) (hf0 : 0 ≤ f) (hf1 : f < fs.length) (h0 : 0 ≤ a) (h1 : a < (rd_T28 fs f).f4.length) :
    Calls Try.prog 40 #[.agg #[.int .i64 sw, .slice SA fs.length sc], .int .i64 f, .agg #[.int .i64 8, .int .i64 a, .int .i64 0, .int .u32 0]] w (YesPost w) := by
  obtain ⟨ad, A4, c4, hSA, _, _, _, _, q4, _, _⟩ := at_T28 hC f hf0 hf1
  subst hSA
  clear hC
  go_enter Try.func40, Try.ntmps40
  go_upto_region 20 with (fail)
  obtain ⟨V, hV⟩ : ∃ V, V = ((w.alloc (.cells #[.int .i64 sw, .slice (some ad) fs.length sc] 31)).alloc (.cells #[.int .i64 8, .int .i64 a, .int .i64 0, .int .u32 0] 25)).alloc (.cells #[.int .i64 8, .int .i64 a, .int .i64 0, .int .u32 0] 25) := ⟨_, rfl⟩
  rw [← hV]
  have hB : Below w.heap.size w V := by rw [hV]; exact (((Below.refl _ _).alloc (Nat.le_refl _) _).alloc (by simp) _).alloc (by simp; omega) _
  have hb0 : V.heap[w.heap.size]? = some (.cells #[.int .i64 sw, .slice (some ad) fs.length sc] 31 (0, 0)) := by
    rw [hV]
    exact blk_alloc (blk_alloc (heap_alloc_new w _) _) _
  have hb1 : V.heap[w.heap.size + 1]? = some (.cells #[.int .i64 8, .int .i64 a, .int .i64 0, .int .u32 0] 25 (0, 0)) := by
    rw [hV]
    refine blk_alloc ((congrArg (fun k => (World.alloc _ _).heap[k]?) (by simp)).trans (heap_alloc_new (w.alloc _) _)) _
  have hb2 : V.heap[w.heap.size + 1 + 1]? = some (.cells #[.int .i64 8, .int .i64 a, .int .i64 0, .int .u32 0] 25 (0, 0)) := by
    rw [hV]
    exact (congrArg (fun k => (World.alloc _ _).heap[k]?) (by simp)).trans (heap_alloc_new ((w.alloc _).alloc _) _)
  have HSS := Lib.hid (show ∀ V1 : World, Below V.heap.size V V1 → (fun w' => w'.cell? ⟨w.heap.size, 1, none⟩ = some (.slice (some ad) fs.length sc) ∧ w'.cell? ⟨w.heap.size + 1, 0, none⟩ = some (.int .i64 8) ∧ w'.cell? ⟨w.heap.size + 1, 1, none⟩ = some (.int .i64 a) ∧ w'.cell? ⟨w.heap.size + 1, 2, none⟩ = some (.int .i64 0) ∧ w'.cell? ⟨w.heap.size + 1, 3, none⟩ = some (.int .u32 0) ∧ w'.cell? ⟨w.heap.size + 1 + 1, 0, none⟩ = some (.int .i64 8) ∧ w'.cell? ⟨w.heap.size + 1 + 1, 1, none⟩ = some (.int .i64 a) ∧ w'.cell? ⟨w.heap.size + 1 + 1, 2, none⟩ = some (.int .i64 0) ∧ w'.cell? ⟨w.heap.size + 1 + 1, 3, none⟩ = some (.int .u32 0) ∧ w'.cell? ⟨(ad.add (f.toNat * 5)).block, (ad.add (f.toNat * 5)).off + 4, none⟩ = some (.slice A4 (rd_T28 fs f).f4.length c4)) V1 from fun V1 h1 => by
    have g0 := blk_below hb0 h1
    have g1 := blk_below hb1 h1
    have g2 := blk_below hb2 h1
    refine ⟨?_, ?_, ?_, ?_, ?_, ?_, ?_, ?_, ?_, pw_cell_below h1 (pw_cell_below hB q4)⟩
    · rw [blk_cell g0]; rfl
    · rw [blk_cell g1]; rfl
    · rw [blk_cell g1]; rfl
    · rw [blk_cell g1]; rfl
    · rw [blk_cell g1]; rfl
    · rw [blk_cell g2]; rfl
    · rw [blk_cell g2]; rfl
    · rw [blk_cell g2]; rfl
    · rw [blk_cell g2]; rfl)
  have kf : decide (f < (fs.length : Int)) = true := decide_eq_true hf1
  have HB := Lib.hid hB
  clear hV hB hb0 hb1 hb2 q4
  refine wp_region_held_drew (S := fun w' => w'.cell? ⟨w.heap.size, 1, none⟩ = some (.slice (some ad) fs.length sc) ∧ w'.cell? ⟨w.heap.size + 1, 0, none⟩ = some (.int .i64 8) ∧ w'.cell? ⟨w.heap.size + 1, 1, none⟩ = some (.int .i64 a) ∧ w'.cell? ⟨w.heap.size + 1, 2, none⟩ = some (.int .i64 0) ∧ w'.cell? ⟨w.heap.size + 1, 3, none⟩ = some (.int .u32 0) ∧ w'.cell? ⟨w.heap.size + 1 + 1, 0, none⟩ = some (.int .i64 8) ∧ w'.cell? ⟨w.heap.size + 1 + 1, 1, none⟩ = some (.int .i64 a) ∧ w'.cell? ⟨w.heap.size + 1 + 1, 2, none⟩ = some (.int .i64 0) ∧ w'.cell? ⟨w.heap.size + 1 + 1, 3, none⟩ = some (.int .u32 0) ∧ w'.cell? ⟨(ad.add (f.toNat * 5)).block, (ad.add (f.toNat * 5)).off + 4, none⟩ = some (.slice A4 (rd_T28 fs f).f4.length c4)) (by kernel_rfl) (HSS.out _ (below_drew (Below.refl _ _))) (fun hSd => ?_)
  refine wpAnyH_take (i := 0) (v := ?_) rfl (by kernel_rfl) (by kernel_rfl) (by kernel_rfl) (fun _ _ _ h => h) (Or.inl ⟨by rfl, ?_⟩) (by assumption) ?_
  rotate_left
  · (intro w hSw; (try dsimp only at hSw); go_simp; try with_reducible rfl)
  (try simp only [List.getElem_toArray, List.getElem_cons_succ, List.getElem_cons_zero, Act.put, List.setIfInBounds_toArray, List.set_cons_zero, List.set_cons_succ])
  refine wpAnyH_take (i := 1) (v := ?_) rfl (by kernel_rfl) (by kernel_rfl) (by kernel_rfl) (fun _ _ _ h => h) (Or.inl ⟨by rfl, ?_⟩) (by assumption) ?_
  rotate_left
  · (intro w hSw; (try dsimp only at hSw); go_simp; try with_reducible rfl)
  (try simp only [List.getElem_toArray, List.getElem_cons_succ, List.getElem_cons_zero, Act.put, List.setIfInBounds_toArray, List.set_cons_zero, List.set_cons_succ])
  refine wpAnyH_take (i := 2) (v := ?_) rfl (by kernel_rfl) (by kernel_rfl) (by kernel_rfl) (fun _ _ _ h => h) (Or.inl ⟨by rfl, ?_⟩) (by assumption) ?_
  rotate_left
  · (intro w hSw; (try dsimp only at hSw); go_simp; try with_reducible rfl)
  (try simp only [List.getElem_toArray, List.getElem_cons_succ, List.getElem_cons_zero, Act.put, List.setIfInBounds_toArray, List.set_cons_zero, List.set_cons_succ])
  refine wpAnyH_take (i := 3) (v := ?_) rfl (by kernel_rfl) (by kernel_rfl) (by kernel_rfl) (fun _ _ _ h => h) (Or.inl ⟨by rfl, ?_⟩) (by assumption) ?_
  rotate_left
  · (intro w hSw; (try dsimp only at hSw); go_simp; try with_reducible rfl)
  (try simp only [List.getElem_toArray, List.getElem_cons_succ, List.getElem_cons_zero, Act.put, List.setIfInBounds_toArray, List.set_cons_zero, List.set_cons_succ])
  refine wpAnyH_take (i := 4) (v := ?_) rfl (by kernel_rfl) (by kernel_rfl) (by kernel_rfl) (fun _ _ _ h => h) (Or.inl ⟨by rfl, ?_⟩) (by assumption) ?_
  rotate_left
  · (intro w hSw; (try dsimp only at hSw); go_simp; try with_reducible rfl)
  (try simp only [List.getElem_toArray, List.getElem_cons_succ, List.getElem_cons_zero, Act.put, List.setIfInBounds_toArray, List.set_cons_zero, List.set_cons_succ])
  refine wpAnyH_take (i := 5) (v := ?_) rfl (by kernel_rfl) (by kernel_rfl) (by kernel_rfl) (fun _ _ _ h => h) (Or.inl ⟨by rfl, ?_⟩) (by assumption) ?_
  rotate_left
  · (intro w hSw; (try dsimp only at hSw); go_simp; try with_reducible rfl)
  (try simp only [List.getElem_toArray, List.getElem_cons_succ, List.getElem_cons_zero, Act.put, List.setIfInBounds_toArray, List.set_cons_zero, List.set_cons_succ])
  refine wpAnyH_take (i := 6) (v := ?_) rfl (by kernel_rfl) (by kernel_rfl) (by kernel_rfl) (fun _ _ _ h => h) (Or.inl ⟨by rfl, ?_⟩) (by assumption) ?_
  rotate_left
  · (intro w hSw; (try dsimp only at hSw); go_simp; try with_reducible rfl)
  (try simp only [List.getElem_toArray, List.getElem_cons_succ, List.getElem_cons_zero, Act.put, List.setIfInBounds_toArray, List.set_cons_zero, List.set_cons_succ])
  refine wpAnyH_take (i := 7) (v := ?_) rfl (by kernel_rfl) (by kernel_rfl) (by kernel_rfl) (fun _ _ _ h => h) (Or.inl ⟨by rfl, ?_⟩) (by assumption) ?_
  rotate_left
  · (intro w hSw; (try dsimp only at hSw); go_simp; try with_reducible rfl)
  (try simp only [List.getElem_toArray, List.getElem_cons_succ, List.getElem_cons_zero, Act.put, List.setIfInBounds_toArray, List.set_cons_zero, List.set_cons_succ])
  refine wpAnyH_take (i := 8) (v := ?_) rfl (by kernel_rfl) (by kernel_rfl) (by kernel_rfl) (fun _ _ _ h => h) (Or.inl ⟨by rfl, ?_⟩) (by assumption) ?_
  rotate_left
  · (intro w hSw; (try dsimp only at hSw); go_simp; try with_reducible rfl)
  (try simp only [List.getElem_toArray, List.getElem_cons_succ, List.getElem_cons_zero, Act.put, List.setIfInBounds_toArray, List.set_cons_zero, List.set_cons_succ])
  refine wpAnyH_take (i := 9) (v := ?_) rfl (by kernel_rfl) (by kernel_rfl) (by kernel_rfl) (fun _ _ _ h => h) (Or.inl ⟨by rfl, ?_⟩) (by assumption) ?_
  rotate_left
  · (intro w hSw; (try dsimp only at hSw); go_simp; try with_reducible rfl)
  (try simp only [List.getElem_toArray, List.getElem_cons_succ, List.getElem_cons_zero, Act.put, List.setIfInBounds_toArray, List.set_cons_zero, List.set_cons_succ])
  refine wpAnyH_take (i := 10) (v := ?_) rfl (by kernel_rfl) (by kernel_rfl) (by kernel_rfl) (fun _ _ _ h => h) (Or.inl ⟨by rfl, ?_⟩) (by assumption) ?_
  rotate_left
  · (intro w hSw; (try dsimp only at hSw); go_simp; try with_reducible rfl)
  (try simp only [List.getElem_toArray, List.getElem_cons_succ, List.getElem_cons_zero, Act.put, List.setIfInBounds_toArray, List.set_cons_zero, List.set_cons_succ])
  refine wpAnyH_take (i := 11) (v := ?_) rfl (by kernel_rfl) (by kernel_rfl) (by kernel_rfl) (fun _ _ _ h => h) (Or.inl ⟨by rfl, ?_⟩) (by assumption) ?_
  rotate_left
  · (intro w hSw; (try dsimp only at hSw); go_simp; try with_reducible rfl)
  (try simp only [List.getElem_toArray, List.getElem_cons_succ, List.getElem_cons_zero, Act.put, List.setIfInBounds_toArray, List.set_cons_zero, List.set_cons_succ])
  refine wpAnyH_take (i := 12) (v := ?_) rfl (by kernel_rfl) (by kernel_rfl) (by kernel_rfl) (fun _ _ _ h => h) (Or.inl ⟨by rfl, ?_⟩) (by assumption) ?_
  rotate_left
  · (intro w hSw; (try dsimp only at hSw); go_simp; try with_reducible rfl)
  (try simp only [List.getElem_toArray, List.getElem_cons_succ, List.getElem_cons_zero, Act.put, List.setIfInBounds_toArray, List.set_cons_zero, List.set_cons_succ])
  refine wpAnyH_ready (rs := [13]) (by kernel_rfl) (by simp) ?_
  refine AllReadyH.cons rfl (fun K hK => ?_) AllReadyH.nil
  go_simp
  refine (within_yes _ _ _ h0 h1).mono ?_
  rintro e w1 ⟨rfl, ⟨m1, rfl⟩⟩
  go_wp2_with fail
  refine hK.out _ _ (HSS.out _ (pw_below_drewN (Below.refl _ _) _)) (fun hSf => ?_)
  clear hK K
  (try simp only [List.getElem_toArray, List.getElem_cons_succ, List.getElem_cons_zero, Act.put, List.setIfInBounds_toArray, List.set_cons_zero, List.set_cons_succ])
  refine wpAnyH_take (i := 14) (v := ?_) rfl (by kernel_rfl) (by kernel_rfl) (by kernel_rfl) (fun _ _ _ h => h) (Or.inl ⟨by rfl, ?_⟩) (by assumption) ?_
  rotate_left
  · (intro w hSw; (try dsimp only at hSw); go_simp; try with_reducible rfl)
  (try simp only [List.getElem_toArray, List.getElem_cons_succ, List.getElem_cons_zero, Act.put, List.setIfInBounds_toArray, List.set_cons_zero, List.set_cons_succ])
  refine wpAnyH_take (i := 15) (v := ?_) rfl (by kernel_rfl) (by kernel_rfl) (by kernel_rfl) (fun _ _ _ h => h) (Or.inl ⟨by rfl, ?_⟩) (by assumption) ?_
  rotate_left
  · (intro w hSw; (try dsimp only at hSw); go_simp; try with_reducible rfl)
  (try simp only [List.getElem_toArray, List.getElem_cons_succ, List.getElem_cons_zero, Act.put, List.setIfInBounds_toArray, List.set_cons_zero, List.set_cons_succ])
  refine wpAnyH_done (by kernel_rfl) ?_ _
  go_wp2_with fail
  go_ret
  exact ⟨rfl, pw_below_drewN HB.out _⟩

set_option maxHeartbeats 1000000 in
set_option maxRecDepth 100000 in
theorem fits_zero (w : World) (sw : Int) (SA : Option Addr) (fs : List S28) (sc : Nat) (f a : Int) (hC : k28.C w SA fs.length fs) (hf0 : 0 ≤ f) (hf1 : f < fs.length) (h0 : 0 ≤ a) (h1 : a < (rd_T28 fs f).f4.length) :
    Calls Try.prog 40 #[.agg #[.int .i64 sw, .slice SA fs.length sc], .int .i64 f, .agg #[.int .i64 9, .int .i64 a, .int .i64 0, .int .u32 0]] w (YesPost w) := by
  obtain ⟨ad, A4, c4, hSA, _, _, _, _, q4, _, _⟩ := at_T28 hC f hf0 hf1
  subst hSA
  clear hC
  go_enter Try.func40, Try.ntmps40
  go_upto_region 20 with (fail)
  obtain ⟨V, hV⟩ : ∃ V, V = ((w.alloc (.cells #[.int .i64 sw, .slice (some ad) fs.length sc] 31)).alloc (.cells #[.int .i64 9, .int .i64 a, .int .i64 0, .int .u32 0] 25)).alloc (.cells #[.int .i64 9, .int .i64 a, .int .i64 0, .int .u32 0] 25) := ⟨_, rfl⟩
  rw [← hV]
  have hB : Below w.heap.size w V := by rw [hV]; exact (((Below.refl _ _).alloc (Nat.le_refl _) _).alloc (by simp) _).alloc (by simp; omega) _
  have hb0 : V.heap[w.heap.size]? = some (.cells #[.int .i64 sw, .slice (some ad) fs.length sc] 31 (0, 0)) := by
    rw [hV]
    exact blk_alloc (blk_alloc (heap_alloc_new w _) _) _
  have hb1 : V.heap[w.heap.size + 1]? = some (.cells #[.int .i64 9, .int .i64 a, .int .i64 0, .int .u32 0] 25 (0, 0)) := by
    rw [hV]
    refine blk_alloc ((congrArg (fun k => (World.alloc _ _).heap[k]?) (by simp)).trans (heap_alloc_new (w.alloc _) _)) _
  have hb2 : V.heap[w.heap.size + 1 + 1]? = some (.cells #[.int .i64 9, .int .i64 a, .int .i64 0, .int .u32 0] 25 (0, 0)) := by
    rw [hV]
    exact (congrArg (fun k => (World.alloc _ _).heap[k]?) (by simp)).trans (heap_alloc_new ((w.alloc _).alloc _) _)
  have HSS := Lib.hid (show ∀ V1 : World, Below V.heap.size V V1 → (fun w' => w'.cell? ⟨w.heap.size, 1, none⟩ = some (.slice (some ad) fs.length sc) ∧ w'.cell? ⟨w.heap.size + 1, 0, none⟩ = some (.int .i64 9) ∧ w'.cell? ⟨w.heap.size + 1, 1, none⟩ = some (.int .i64 a) ∧ w'.cell? ⟨w.heap.size + 1, 2, none⟩ = some (.int .i64 0) ∧ w'.cell? ⟨w.heap.size + 1, 3, none⟩ = some (.int .u32 0) ∧ w'.cell? ⟨w.heap.size + 1 + 1, 0, none⟩ = some (.int .i64 9) ∧ w'.cell? ⟨w.heap.size + 1 + 1, 1, none⟩ = some (.int .i64 a) ∧ w'.cell? ⟨w.heap.size + 1 + 1, 2, none⟩ = some (.int .i64 0) ∧ w'.cell? ⟨w.heap.size + 1 + 1, 3, none⟩ = some (.int .u32 0) ∧ w'.cell? ⟨(ad.add (f.toNat * 5)).block, (ad.add (f.toNat * 5)).off + 4, none⟩ = some (.slice A4 (rd_T28 fs f).f4.length c4)) V1 from fun V1 h1 => by
    have g0 := blk_below hb0 h1
    have g1 := blk_below hb1 h1
    have g2 := blk_below hb2 h1
    refine ⟨?_, ?_, ?_, ?_, ?_, ?_, ?_, ?_, ?_, pw_cell_below h1 (pw_cell_below hB q4)⟩
    · rw [blk_cell g0]; rfl
    · rw [blk_cell g1]; rfl
    · rw [blk_cell g1]; rfl
    · rw [blk_cell g1]; rfl
    · rw [blk_cell g1]; rfl
    · rw [blk_cell g2]; rfl
    · rw [blk_cell g2]; rfl
    · rw [blk_cell g2]; rfl
    · rw [blk_cell g2]; rfl)
  have kf : decide (f < (fs.length : Int)) = true := decide_eq_true hf1
  have HB := Lib.hid hB
  clear hV hB hb0 hb1 hb2 q4
  refine wp_region_held_drew (S := fun w' => w'.cell? ⟨w.heap.size, 1, none⟩ = some (.slice (some ad) fs.length sc) ∧ w'.cell? ⟨w.heap.size + 1, 0, none⟩ = some (.int .i64 9) ∧ w'.cell? ⟨w.heap.size + 1, 1, none⟩ = some (.int .i64 a) ∧ w'.cell? ⟨w.heap.size + 1, 2, none⟩ = some (.int .i64 0) ∧ w'.cell? ⟨w.heap.size + 1, 3, none⟩ = some (.int .u32 0) ∧ w'.cell? ⟨w.heap.size + 1 + 1, 0, none⟩ = some (.int .i64 9) ∧ w'.cell? ⟨w.heap.size + 1 + 1, 1, none⟩ = some (.int .i64 a) ∧ w'.cell? ⟨w.heap.size + 1 + 1, 2, none⟩ = some (.int .i64 0) ∧ w'.cell? ⟨w.heap.size + 1 + 1, 3, none⟩ = some (.int .u32 0) ∧ w'.cell? ⟨(ad.add (f.toNat * 5)).block, (ad.add (f.toNat * 5)).off + 4, none⟩ = some (.slice A4 (rd_T28 fs f).f4.length c4)) (by kernel_rfl) (HSS.out _ (below_drew (Below.refl _ _))) (fun hSd => ?_)
  refine wpAnyH_take (i := 0) (v := ?_) rfl (by kernel_rfl) (by kernel_rfl) (by kernel_rfl) (fun _ _ _ h => h) (Or.inl ⟨by rfl, ?_⟩) (by assumption) ?_
  rotate_left
  · (intro w hSw; (try dsimp only at hSw); go_simp; try with_reducible rfl)
  (try simp only [List.getElem_toArray, List.getElem_cons_succ, List.getElem_cons_zero, Act.put, List.setIfInBounds_toArray, List.set_cons_zero, List.set_cons_succ])
  refine wpAnyH_take (i := 1) (v := ?_) rfl (by kernel_rfl) (by kernel_rfl) (by kernel_rfl) (fun _ _ _ h => h) (Or.inl ⟨by rfl, ?_⟩) (by assumption) ?_
  rotate_left
  · (intro w hSw; (try dsimp only at hSw); go_simp; try with_reducible rfl)
  (try simp only [List.getElem_toArray, List.getElem_cons_succ, List.getElem_cons_zero, Act.put, List.setIfInBounds_toArray, List.set_cons_zero, List.set_cons_succ])
  refine wpAnyH_take (i := 2) (v := ?_) rfl (by kernel_rfl) (by kernel_rfl) (by kernel_rfl) (fun _ _ _ h => h) (Or.inl ⟨by rfl, ?_⟩) (by assumption) ?_
  rotate_left
  · (intro w hSw; (try dsimp only at hSw); go_simp; try with_reducible rfl)
  (try simp only [List.getElem_toArray, List.getElem_cons_succ, List.getElem_cons_zero, Act.put, List.setIfInBounds_toArray, List.set_cons_zero, List.set_cons_succ])
  refine wpAnyH_take (i := 3) (v := ?_) rfl (by kernel_rfl) (by kernel_rfl) (by kernel_rfl) (fun _ _ _ h => h) (Or.inl ⟨by rfl, ?_⟩) (by assumption) ?_
  rotate_left
  · (intro w hSw; (try dsimp only at hSw); go_simp; try with_reducible rfl)
  (try simp only [List.getElem_toArray, List.getElem_cons_succ, List.getElem_cons_zero, Act.put, List.setIfInBounds_toArray, List.set_cons_zero, List.set_cons_succ])
  refine wpAnyH_take (i := 4) (v := ?_) rfl (by kernel_rfl) (by kernel_rfl) (by kernel_rfl) (fun _ _ _ h => h) (Or.inl ⟨by rfl, ?_⟩) (by assumption) ?_
  rotate_left
  · (intro w hSw; (try dsimp only at hSw); go_simp; try with_reducible rfl)
  (try simp only [List.getElem_toArray, List.getElem_cons_succ, List.getElem_cons_zero, Act.put, List.setIfInBounds_toArray, List.set_cons_zero, List.set_cons_succ])
  refine wpAnyH_take (i := 5) (v := ?_) rfl (by kernel_rfl) (by kernel_rfl) (by kernel_rfl) (fun _ _ _ h => h) (Or.inl ⟨by rfl, ?_⟩) (by assumption) ?_
  rotate_left
  · (intro w hSw; (try dsimp only at hSw); go_simp; try with_reducible rfl)
  (try simp only [List.getElem_toArray, List.getElem_cons_succ, List.getElem_cons_zero, Act.put, List.setIfInBounds_toArray, List.set_cons_zero, List.set_cons_succ])
  refine wpAnyH_take (i := 6) (v := ?_) rfl (by kernel_rfl) (by kernel_rfl) (by kernel_rfl) (fun _ _ _ h => h) (Or.inl ⟨by rfl, ?_⟩) (by assumption) ?_
  rotate_left
  · (intro w hSw; (try dsimp only at hSw); go_simp; try with_reducible rfl)
  (try simp only [List.getElem_toArray, List.getElem_cons_succ, List.getElem_cons_zero, Act.put, List.setIfInBounds_toArray, List.set_cons_zero, List.set_cons_succ])
  refine wpAnyH_take (i := 7) (v := ?_) rfl (by kernel_rfl) (by kernel_rfl) (by kernel_rfl) (fun _ _ _ h => h) (Or.inl ⟨by rfl, ?_⟩) (by assumption) ?_
  rotate_left
  · (intro w hSw; (try dsimp only at hSw); go_simp; try with_reducible rfl)
  (try simp only [List.getElem_toArray, List.getElem_cons_succ, List.getElem_cons_zero, Act.put, List.setIfInBounds_toArray, List.set_cons_zero, List.set_cons_succ])
  refine wpAnyH_take (i := 8) (v := ?_) rfl (by kernel_rfl) (by kernel_rfl) (by kernel_rfl) (fun _ _ _ h => h) (Or.inl ⟨by rfl, ?_⟩) (by assumption) ?_
  rotate_left
  · (intro w hSw; (try dsimp only at hSw); go_simp; try with_reducible rfl)
  (try simp only [List.getElem_toArray, List.getElem_cons_succ, List.getElem_cons_zero, Act.put, List.setIfInBounds_toArray, List.set_cons_zero, List.set_cons_succ])
  refine wpAnyH_take (i := 9) (v := ?_) rfl (by kernel_rfl) (by kernel_rfl) (by kernel_rfl) (fun _ _ _ h => h) (Or.inl ⟨by rfl, ?_⟩) (by assumption) ?_
  rotate_left
  · (intro w hSw; (try dsimp only at hSw); go_simp; try with_reducible rfl)
  (try simp only [List.getElem_toArray, List.getElem_cons_succ, List.getElem_cons_zero, Act.put, List.setIfInBounds_toArray, List.set_cons_zero, List.set_cons_succ])
  refine wpAnyH_take (i := 10) (v := ?_) rfl (by kernel_rfl) (by kernel_rfl) (by kernel_rfl) (fun _ _ _ h => h) (Or.inl ⟨by rfl, ?_⟩) (by assumption) ?_
  rotate_left
  · (intro w hSw; (try dsimp only at hSw); go_simp; try with_reducible rfl)
  (try simp only [List.getElem_toArray, List.getElem_cons_succ, List.getElem_cons_zero, Act.put, List.setIfInBounds_toArray, List.set_cons_zero, List.set_cons_succ])
  refine wpAnyH_take (i := 11) (v := ?_) rfl (by kernel_rfl) (by kernel_rfl) (by kernel_rfl) (fun _ _ _ h => h) (Or.inl ⟨by rfl, ?_⟩) (by assumption) ?_
  rotate_left
  · (intro w hSw; (try dsimp only at hSw); go_simp; try with_reducible rfl)
  (try simp only [List.getElem_toArray, List.getElem_cons_succ, List.getElem_cons_zero, Act.put, List.setIfInBounds_toArray, List.set_cons_zero, List.set_cons_succ])
  refine wpAnyH_take (i := 12) (v := ?_) rfl (by kernel_rfl) (by kernel_rfl) (by kernel_rfl) (fun _ _ _ h => h) (Or.inl ⟨by rfl, ?_⟩) (by assumption) ?_
  rotate_left
  · (intro w hSw; (try dsimp only at hSw); go_simp; try with_reducible rfl)
  (try simp only [List.getElem_toArray, List.getElem_cons_succ, List.getElem_cons_zero, Act.put, List.setIfInBounds_toArray, List.set_cons_zero, List.set_cons_succ])
  refine wpAnyH_ready (rs := [13]) (by kernel_rfl) (by simp) ?_
  refine AllReadyH.cons rfl (fun K hK => ?_) AllReadyH.nil
  go_simp
  refine (within_yes _ _ _ h0 h1).mono ?_
  rintro e w1 ⟨rfl, ⟨m1, rfl⟩⟩
  go_wp2_with fail
  refine hK.out _ _ (HSS.out _ (pw_below_drewN (Below.refl _ _) _)) (fun hSf => ?_)
  clear hK K
  (try simp only [List.getElem_toArray, List.getElem_cons_succ, List.getElem_cons_zero, Act.put, List.setIfInBounds_toArray, List.set_cons_zero, List.set_cons_succ])
  refine wpAnyH_take (i := 14) (v := ?_) rfl (by kernel_rfl) (by kernel_rfl) (by kernel_rfl) (fun _ _ _ h => h) (Or.inl ⟨by rfl, ?_⟩) (by assumption) ?_
  rotate_left
  · (intro w hSw; (try dsimp only at hSw); go_simp; try with_reducible rfl)
  (try simp only [List.getElem_toArray, List.getElem_cons_succ, List.getElem_cons_zero, Act.put, List.setIfInBounds_toArray, List.set_cons_zero, List.set_cons_succ])
  refine wpAnyH_take (i := 15) (v := ?_) rfl (by kernel_rfl) (by kernel_rfl) (by kernel_rfl) (fun _ _ _ h => h) (Or.inl ⟨by rfl, ?_⟩) (by assumption) ?_
  rotate_left
  · (intro w hSw; (try dsimp only at hSw); go_simp; try with_reducible rfl)
  (try simp only [List.getElem_toArray, List.getElem_cons_succ, List.getElem_cons_zero, Act.put, List.setIfInBounds_toArray, List.set_cons_zero, List.set_cons_succ])
  refine wpAnyH_done (by kernel_rfl) ?_ _
  go_wp2_with fail
  go_ret
  exact ⟨rfl, pw_below_drewN HB.out _⟩

set_option maxHeartbeats 1000000 in
set_option maxRecDepth 100000 in
theorem fits_aload (w : World) (sw : Int) (SA : Option Addr) (fs : List S28) (sc : Nat) (f : Int) (a b : Int) (hs0 : 0 ≤ sw) (hs1 : sw ≤ 1000000) (h0 : 0 ≤ a) (h1 : 1 ≤ b) (h2 : b ≤ 4096) (h3 : a ≤ sw - b) :
    Calls Try.prog 40 #[.agg #[.int .i64 sw, .slice SA fs.length sc], .int .i64 f, .agg #[.int .i64 4, .int .i64 a, .int .i64 b, .int .u32 0]] w (YesPost w) := by
  go_enter Try.func40, Try.ntmps40
  have d0 : decide ((0 : Int) ≤ a) = true := decide_eq_true h0
  have d1 : decide ((1 : Int) ≤ b) = true := decide_eq_true h1
  have d2 : decide (b ≤ (4096 : Int)) = true := decide_eq_true h2
  have d3 : decide (a ≤ sw - b) = true := decide_eq_true h3
  have d4 : IntKind.i64.wrap (sw - b) = sw - b := IntWalk.i64_in _ (by omega)
  go_upto_region 12 with (fail)
  go_region
  go_wp2_with fail
  go_ret
  refine ⟨rfl, ?_⟩
  repeat (first | exact Below.refl _ _ | (refine Below.setCell ?_ (by first | (simp; done) | (simp; omega)) _) | (refine Below.alloc ?_ (by first | (simp; done) | (simp; omega)) _) | refine pw_below_drewN ?_ _ | refine below_drew ?_)

set_option maxHeartbeats 1000000 in
set_option maxRecDepth 100000 in
theorem fits_astore (w : World) (sw : Int) (SA : Option Addr) (fs : List S28) (sc : Nat) (f : Int) (a b : Int) (hs0 : 0 ≤ sw) (hs1 : sw ≤ 1000000) (h0 : 0 ≤ a) (h1 : 1 ≤ b) (h2 : b ≤ 4096) (h3 : a ≤ sw - b) :
    Calls Try.prog 40 #[.agg #[.int .i64 sw, .slice SA fs.length sc], .int .i64 f, .agg #[.int .i64 5, .int .i64 a, .int .i64 b, .int .u32 0]] w (YesPost w) := by
  go_enter Try.func40, Try.ntmps40
  have d0 : decide ((0 : Int) ≤ a) = true := decide_eq_true h0
  have d1 : decide ((1 : Int) ≤ b) = true := decide_eq_true h1
  have d2 : decide (b ≤ (4096 : Int)) = true := decide_eq_true h2
  have d3 : decide (a ≤ sw - b) = true := decide_eq_true h3
  have d4 : IntKind.i64.wrap (sw - b) = sw - b := IntWalk.i64_in _ (by omega)
  go_upto_region 12 with (fail)
  go_region
  go_wp2_with fail
  go_ret
  refine ⟨rfl, ?_⟩
  repeat (first | exact Below.refl _ _ | (refine Below.setCell ?_ (by first | (simp; done) | (simp; omega)) _) | (refine Below.alloc ?_ (by first | (simp; done) | (simp; omega)) _) | refine pw_below_drewN ?_ _ | refine below_drew ?_)

end Go.Proofs.Ytlngcolnjgloaaa
