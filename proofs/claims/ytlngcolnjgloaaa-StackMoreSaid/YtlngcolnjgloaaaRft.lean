/- The reference's Fits: where it says yes an instruction may be. Conditions: the function is there. -/
import Derived.Test.YtlngcolnjgloaaaFun
namespace Go.Proofs.Ytlngcolnjgloaaa
set_option linter.unusedVariables false
set_option linter.unusedSimpArgs false
open Go.RowKit Go.Proofs.YtlngcolnjgloaaaW.PrintWords PStackRuns

def RfPost (w : World) (P : Prop) (e : Ending) (w' : World) : Prop := ∃ r, e = .returned (.bool r) ∧ (r = true → P) ∧ Below w.heap.size w w'

set_option maxHeartbeats 1000000 in
set_option maxRecDepth 100000 in
theorem rft1 (w : World) (sw : Int) (SA : Option Addr) (fs : List S28) (sc : Nat) (f a b n : Int) (hC : k28.C w SA fs.length fs) (hs0 : 0 ≤ sw) (hs1 : sw ≤ 1000000) (hf0 : 0 ≤ f) (hf1 : f < fs.length) :
    Calls Try.prog 25 #[.agg #[.int .i64 sw, .slice SA fs.length sc], .int .i64 f, .agg #[.int .i64 1, .int .i64 a, .int .i64 b, .int .u32 n]] w (RfPost w (fitP sw fs f ⟨1, a, b, n⟩)) := by
  by_cases hb : b = 0
  · subst hb
    go_enter Try.func25, Try.ntmps25
    go_wp2_with fail
    go_ret
    refine ⟨_, rfl, fun h => ?_, ?_⟩
    · simp at h; simp [fitP, h]
    · repeat (first | exact Below.refl _ _ | (refine Below.setCell ?_ (by first | (simp; done) | (simp; omega)) _) | (refine Below.alloc ?_ (by first | (simp; done) | (simp; omega)) _) | refine pw_below_drewN ?_ _ | refine below_drew ?_)
  · have hb' : (b != 0) = true := by simpa using hb
    go_enter Try.func25, Try.ntmps25
    go_wp2_with fail
    go_ret
    refine ⟨_, rfl, fun h => ?_, ?_⟩
    · simp at h
    · repeat (first | exact Below.refl _ _ | (refine Below.setCell ?_ (by first | (simp; done) | (simp; omega)) _) | (refine Below.alloc ?_ (by first | (simp; done) | (simp; omega)) _) | refine pw_below_drewN ?_ _ | refine below_drew ?_)

set_option maxHeartbeats 1000000 in
set_option maxRecDepth 100000 in
theorem rft2 (w : World) (sw : Int) (SA : Option Addr) (fs : List S28) (sc : Nat) (f a b n : Int) (hC : k28.C w SA fs.length fs) (hs0 : 0 ≤ sw) (hs1 : sw ≤ 1000000) (hf0 : 0 ≤ f) (hf1 : f < fs.length) :
    Calls Try.prog 25 #[.agg #[.int .i64 sw, .slice SA fs.length sc], .int .i64 f, .agg #[.int .i64 2, .int .i64 a, .int .i64 b, .int .u32 n]] w (RfPost w (fitP sw fs f ⟨2, a, b, n⟩)) := by
  by_cases hn : n = 0
  · subst hn
    by_cases hb : b = 0
    · subst hb
      by_cases h0 : 0 ≤ a
      · have h0' : decide (0 ≤ a) = true := decide_eq_true h0
        go_enter Try.func25, Try.ntmps25
        go_wp2_with fail
        go_ret
        refine ⟨_, rfl, fun h => ?_, ?_⟩
        · simp at h; simp [fitP, h0, h]
        · repeat (first | exact Below.refl _ _ | (refine Below.setCell ?_ (by first | (simp; done) | (simp; omega)) _) | (refine Below.alloc ?_ (by first | (simp; done) | (simp; omega)) _) | refine pw_below_drewN ?_ _ | refine below_drew ?_)
      · have h0' : decide (0 ≤ a) = false := decide_eq_false h0
        go_enter Try.func25, Try.ntmps25
        go_wp2_with fail
        go_ret
        refine ⟨_, rfl, fun h => ?_, ?_⟩
        · simp at h
        · repeat (first | exact Below.refl _ _ | (refine Below.setCell ?_ (by first | (simp; done) | (simp; omega)) _) | (refine Below.alloc ?_ (by first | (simp; done) | (simp; omega)) _) | refine pw_below_drewN ?_ _ | refine below_drew ?_)
    · have hb' : (b != 0) = true := by simpa using hb
      go_enter Try.func25, Try.ntmps25
      go_wp2_with fail
      go_ret
      refine ⟨_, rfl, fun h => ?_, ?_⟩
      · simp at h
      · repeat (first | exact Below.refl _ _ | (refine Below.setCell ?_ (by first | (simp; done) | (simp; omega)) _) | (refine Below.alloc ?_ (by first | (simp; done) | (simp; omega)) _) | refine pw_below_drewN ?_ _ | refine below_drew ?_)
  · have hn' : (n != 0) = true := by simpa using hn
    go_enter Try.func25, Try.ntmps25
    go_wp2_with fail
    go_ret
    refine ⟨_, rfl, fun h => ?_, ?_⟩
    · simp at h
    · repeat (first | exact Below.refl _ _ | (refine Below.setCell ?_ (by first | (simp; done) | (simp; omega)) _) | (refine Below.alloc ?_ (by first | (simp; done) | (simp; omega)) _) | refine pw_below_drewN ?_ _ | refine below_drew ?_)

set_option maxHeartbeats 1000000 in
set_option maxRecDepth 100000 in
theorem rft3 (w : World) (sw : Int) (SA : Option Addr) (fs : List S28) (sc : Nat) (f a b n : Int) (hC : k28.C w SA fs.length fs) (hs0 : 0 ≤ sw) (hs1 : sw ≤ 1000000) (hf0 : 0 ≤ f) (hf1 : f < fs.length) :
    Calls Try.prog 25 #[.agg #[.int .i64 sw, .slice SA fs.length sc], .int .i64 f, .agg #[.int .i64 3, .int .i64 a, .int .i64 b, .int .u32 n]] w (RfPost w (fitP sw fs f ⟨3, a, b, n⟩)) := by
  by_cases hn : n = 0
  · subst hn
    by_cases hb : b = 0
    · subst hb
      by_cases h0 : 0 ≤ a
      · have h0' : decide (0 ≤ a) = true := decide_eq_true h0
        go_enter Try.func25, Try.ntmps25
        go_wp2_with fail
        go_ret
        refine ⟨_, rfl, fun h => ?_, ?_⟩
        · simp at h; simp [fitP, h0, h]
        · repeat (first | exact Below.refl _ _ | (refine Below.setCell ?_ (by first | (simp; done) | (simp; omega)) _) | (refine Below.alloc ?_ (by first | (simp; done) | (simp; omega)) _) | refine pw_below_drewN ?_ _ | refine below_drew ?_)
      · have h0' : decide (0 ≤ a) = false := decide_eq_false h0
        go_enter Try.func25, Try.ntmps25
        go_wp2_with fail
        go_ret
        refine ⟨_, rfl, fun h => ?_, ?_⟩
        · simp at h
        · repeat (first | exact Below.refl _ _ | (refine Below.setCell ?_ (by first | (simp; done) | (simp; omega)) _) | (refine Below.alloc ?_ (by first | (simp; done) | (simp; omega)) _) | refine pw_below_drewN ?_ _ | refine below_drew ?_)
    · have hb' : (b != 0) = true := by simpa using hb
      go_enter Try.func25, Try.ntmps25
      go_wp2_with fail
      go_ret
      refine ⟨_, rfl, fun h => ?_, ?_⟩
      · simp at h
      · repeat (first | exact Below.refl _ _ | (refine Below.setCell ?_ (by first | (simp; done) | (simp; omega)) _) | (refine Below.alloc ?_ (by first | (simp; done) | (simp; omega)) _) | refine pw_below_drewN ?_ _ | refine below_drew ?_)
  · have hn' : (n != 0) = true := by simpa using hn
    go_enter Try.func25, Try.ntmps25
    go_wp2_with fail
    go_ret
    refine ⟨_, rfl, fun h => ?_, ?_⟩
    · simp at h
    · repeat (first | exact Below.refl _ _ | (refine Below.setCell ?_ (by first | (simp; done) | (simp; omega)) _) | (refine Below.alloc ?_ (by first | (simp; done) | (simp; omega)) _) | refine pw_below_drewN ?_ _ | refine below_drew ?_)

set_option maxHeartbeats 1000000 in
set_option maxRecDepth 100000 in
theorem rft4 (w : World) (sw : Int) (SA : Option Addr) (fs : List S28) (sc : Nat) (f a b n : Int) (hC : k28.C w SA fs.length fs) (hs0 : 0 ≤ sw) (hs1 : sw ≤ 1000000) (hf0 : 0 ≤ f) (hf1 : f < fs.length) :
    Calls Try.prog 25 #[.agg #[.int .i64 sw, .slice SA fs.length sc], .int .i64 f, .agg #[.int .i64 4, .int .i64 a, .int .i64 b, .int .u32 n]] w (RfPost w (fitP sw fs f ⟨4, a, b, n⟩)) := by
  by_cases hn : n = 0
  · subst hn
    by_cases h0 : 0 ≤ a
    · have h0' : decide (0 ≤ a) = true := decide_eq_true h0
      by_cases h1 : 1 ≤ b
      · have h1' : decide (1 ≤ b) = true := decide_eq_true h1
        by_cases h2 : b ≤ 4096
        · have h2' : decide (b ≤ 4096) = true := decide_eq_true h2
          have hw : IntKind.i64.wrap (sw - b) = sw - b := IntWalk.i64_in _ (by omega)
          go_enter Try.func25, Try.ntmps25
          go_wp2_with fail
          go_ret
          refine ⟨_, rfl, fun h => ?_, ?_⟩
          · simp at h; simp [fitP, h0, h1, h2, h]
          · repeat (first | exact Below.refl _ _ | (refine Below.setCell ?_ (by first | (simp; done) | (simp; omega)) _) | (refine Below.alloc ?_ (by first | (simp; done) | (simp; omega)) _) | refine pw_below_drewN ?_ _ | refine below_drew ?_)
        · have h2' : decide (b ≤ 4096) = false := decide_eq_false h2
          go_enter Try.func25, Try.ntmps25
          go_wp2_with fail
          go_ret
          refine ⟨_, rfl, fun h => ?_, ?_⟩
          · simp at h
          · repeat (first | exact Below.refl _ _ | (refine Below.setCell ?_ (by first | (simp; done) | (simp; omega)) _) | (refine Below.alloc ?_ (by first | (simp; done) | (simp; omega)) _) | refine pw_below_drewN ?_ _ | refine below_drew ?_)
      · have h1' : decide (1 ≤ b) = false := decide_eq_false h1
        go_enter Try.func25, Try.ntmps25
        go_wp2_with fail
        go_ret
        refine ⟨_, rfl, fun h => ?_, ?_⟩
        · simp at h
        · repeat (first | exact Below.refl _ _ | (refine Below.setCell ?_ (by first | (simp; done) | (simp; omega)) _) | (refine Below.alloc ?_ (by first | (simp; done) | (simp; omega)) _) | refine pw_below_drewN ?_ _ | refine below_drew ?_)
    · have h0' : decide (0 ≤ a) = false := decide_eq_false h0
      go_enter Try.func25, Try.ntmps25
      go_wp2_with fail
      go_ret
      refine ⟨_, rfl, fun h => ?_, ?_⟩
      · simp at h
      · repeat (first | exact Below.refl _ _ | (refine Below.setCell ?_ (by first | (simp; done) | (simp; omega)) _) | (refine Below.alloc ?_ (by first | (simp; done) | (simp; omega)) _) | refine pw_below_drewN ?_ _ | refine below_drew ?_)
  · have hn' : (n != 0) = true := by simpa using hn
    go_enter Try.func25, Try.ntmps25
    go_wp2_with fail
    go_ret
    refine ⟨_, rfl, fun h => ?_, ?_⟩
    · simp at h
    · repeat (first | exact Below.refl _ _ | (refine Below.setCell ?_ (by first | (simp; done) | (simp; omega)) _) | (refine Below.alloc ?_ (by first | (simp; done) | (simp; omega)) _) | refine pw_below_drewN ?_ _ | refine below_drew ?_)

set_option maxHeartbeats 1000000 in
set_option maxRecDepth 100000 in
theorem rft5 (w : World) (sw : Int) (SA : Option Addr) (fs : List S28) (sc : Nat) (f a b n : Int) (hC : k28.C w SA fs.length fs) (hs0 : 0 ≤ sw) (hs1 : sw ≤ 1000000) (hf0 : 0 ≤ f) (hf1 : f < fs.length) :
    Calls Try.prog 25 #[.agg #[.int .i64 sw, .slice SA fs.length sc], .int .i64 f, .agg #[.int .i64 5, .int .i64 a, .int .i64 b, .int .u32 n]] w (RfPost w (fitP sw fs f ⟨5, a, b, n⟩)) := by
  by_cases hn : n = 0
  · subst hn
    by_cases h0 : 0 ≤ a
    · have h0' : decide (0 ≤ a) = true := decide_eq_true h0
      by_cases h1 : 1 ≤ b
      · have h1' : decide (1 ≤ b) = true := decide_eq_true h1
        by_cases h2 : b ≤ 4096
        · have h2' : decide (b ≤ 4096) = true := decide_eq_true h2
          have hw : IntKind.i64.wrap (sw - b) = sw - b := IntWalk.i64_in _ (by omega)
          go_enter Try.func25, Try.ntmps25
          go_wp2_with fail
          go_ret
          refine ⟨_, rfl, fun h => ?_, ?_⟩
          · simp at h; simp [fitP, h0, h1, h2, h]
          · repeat (first | exact Below.refl _ _ | (refine Below.setCell ?_ (by first | (simp; done) | (simp; omega)) _) | (refine Below.alloc ?_ (by first | (simp; done) | (simp; omega)) _) | refine pw_below_drewN ?_ _ | refine below_drew ?_)
        · have h2' : decide (b ≤ 4096) = false := decide_eq_false h2
          go_enter Try.func25, Try.ntmps25
          go_wp2_with fail
          go_ret
          refine ⟨_, rfl, fun h => ?_, ?_⟩
          · simp at h
          · repeat (first | exact Below.refl _ _ | (refine Below.setCell ?_ (by first | (simp; done) | (simp; omega)) _) | (refine Below.alloc ?_ (by first | (simp; done) | (simp; omega)) _) | refine pw_below_drewN ?_ _ | refine below_drew ?_)
      · have h1' : decide (1 ≤ b) = false := decide_eq_false h1
        go_enter Try.func25, Try.ntmps25
        go_wp2_with fail
        go_ret
        refine ⟨_, rfl, fun h => ?_, ?_⟩
        · simp at h
        · repeat (first | exact Below.refl _ _ | (refine Below.setCell ?_ (by first | (simp; done) | (simp; omega)) _) | (refine Below.alloc ?_ (by first | (simp; done) | (simp; omega)) _) | refine pw_below_drewN ?_ _ | refine below_drew ?_)
    · have h0' : decide (0 ≤ a) = false := decide_eq_false h0
      go_enter Try.func25, Try.ntmps25
      go_wp2_with fail
      go_ret
      refine ⟨_, rfl, fun h => ?_, ?_⟩
      · simp at h
      · repeat (first | exact Below.refl _ _ | (refine Below.setCell ?_ (by first | (simp; done) | (simp; omega)) _) | (refine Below.alloc ?_ (by first | (simp; done) | (simp; omega)) _) | refine pw_below_drewN ?_ _ | refine below_drew ?_)
  · have hn' : (n != 0) = true := by simpa using hn
    go_enter Try.func25, Try.ntmps25
    go_wp2_with fail
    go_ret
    refine ⟨_, rfl, fun h => ?_, ?_⟩
    · simp at h
    · repeat (first | exact Below.refl _ _ | (refine Below.setCell ?_ (by first | (simp; done) | (simp; omega)) _) | (refine Below.alloc ?_ (by first | (simp; done) | (simp; omega)) _) | refine pw_below_drewN ?_ _ | refine below_drew ?_)

set_option maxHeartbeats 1000000 in
set_option maxRecDepth 100000 in
theorem rft6 (w : World) (sw : Int) (SA : Option Addr) (fs : List S28) (sc : Nat) (f a b n : Int) (hC : k28.C w SA fs.length fs) (hs0 : 0 ≤ sw) (hs1 : sw ≤ 1000000) (hf0 : 0 ≤ f) (hf1 : f < fs.length) :
    Calls Try.prog 25 #[.agg #[.int .i64 sw, .slice SA fs.length sc], .int .i64 f, .agg #[.int .i64 6, .int .i64 a, .int .i64 b, .int .u32 n]] w (RfPost w (fitP sw fs f ⟨6, a, b, n⟩)) := by
  by_cases hn : n = 0
  · subst hn
    by_cases hb : b = 0
    · subst hb
      by_cases h0 : 4 ≤ a
      · have h0' : decide (4 ≤ a) = true := decide_eq_true h0
        go_enter Try.func25, Try.ntmps25
        go_wp2_with fail
        go_ret
        refine ⟨_, rfl, fun h => ?_, ?_⟩
        · simp at h; simp [fitP, h0, h]
        · repeat (first | exact Below.refl _ _ | (refine Below.setCell ?_ (by first | (simp; done) | (simp; omega)) _) | (refine Below.alloc ?_ (by first | (simp; done) | (simp; omega)) _) | refine pw_below_drewN ?_ _ | refine below_drew ?_)
      · have h0' : decide (4 ≤ a) = false := decide_eq_false h0
        go_enter Try.func25, Try.ntmps25
        go_wp2_with fail
        go_ret
        refine ⟨_, rfl, fun h => ?_, ?_⟩
        · simp at h
        · repeat (first | exact Below.refl _ _ | (refine Below.setCell ?_ (by first | (simp; done) | (simp; omega)) _) | (refine Below.alloc ?_ (by first | (simp; done) | (simp; omega)) _) | refine pw_below_drewN ?_ _ | refine below_drew ?_)
    · have hb' : (b != 0) = true := by simpa using hb
      go_enter Try.func25, Try.ntmps25
      go_wp2_with fail
      go_ret
      refine ⟨_, rfl, fun h => ?_, ?_⟩
      · simp at h
      · repeat (first | exact Below.refl _ _ | (refine Below.setCell ?_ (by first | (simp; done) | (simp; omega)) _) | (refine Below.alloc ?_ (by first | (simp; done) | (simp; omega)) _) | refine pw_below_drewN ?_ _ | refine below_drew ?_)
  · have hn' : (n != 0) = true := by simpa using hn
    go_enter Try.func25, Try.ntmps25
    go_wp2_with fail
    go_ret
    refine ⟨_, rfl, fun h => ?_, ?_⟩
    · simp at h
    · repeat (first | exact Below.refl _ _ | (refine Below.setCell ?_ (by first | (simp; done) | (simp; omega)) _) | (refine Below.alloc ?_ (by first | (simp; done) | (simp; omega)) _) | refine pw_below_drewN ?_ _ | refine below_drew ?_)

set_option maxHeartbeats 1000000 in
set_option maxRecDepth 100000 in
theorem rft7 (w : World) (sw : Int) (SA : Option Addr) (fs : List S28) (sc : Nat) (f a b n : Int) (hC : k28.C w SA fs.length fs) (hs0 : 0 ≤ sw) (hs1 : sw ≤ 1000000) (hf0 : 0 ≤ f) (hf1 : f < fs.length) :
    Calls Try.prog 25 #[.agg #[.int .i64 sw, .slice SA fs.length sc], .int .i64 f, .agg #[.int .i64 7, .int .i64 a, .int .i64 b, .int .u32 n]] w (RfPost w (fitP sw fs f ⟨7, a, b, n⟩)) := by
  by_cases hn : n = 0
  · subst hn
    by_cases hb : b = 0
    · subst hb
      go_enter Try.func25, Try.ntmps25
      go_wp2_with fail
      go_ret
      refine ⟨_, rfl, fun h => ?_, ?_⟩
      · simp at h; simp [fitP, h]
      · repeat (first | exact Below.refl _ _ | (refine Below.setCell ?_ (by first | (simp; done) | (simp; omega)) _) | (refine Below.alloc ?_ (by first | (simp; done) | (simp; omega)) _) | refine pw_below_drewN ?_ _ | refine below_drew ?_)
    · have hb' : (b != 0) = true := by simpa using hb
      go_enter Try.func25, Try.ntmps25
      go_wp2_with fail
      go_ret
      refine ⟨_, rfl, fun h => ?_, ?_⟩
      · simp at h
      · repeat (first | exact Below.refl _ _ | (refine Below.setCell ?_ (by first | (simp; done) | (simp; omega)) _) | (refine Below.alloc ?_ (by first | (simp; done) | (simp; omega)) _) | refine pw_below_drewN ?_ _ | refine below_drew ?_)
  · have hn' : (n != 0) = true := by simpa using hn
    go_enter Try.func25, Try.ntmps25
    go_wp2_with fail
    go_ret
    refine ⟨_, rfl, fun h => ?_, ?_⟩
    · simp at h
    · repeat (first | exact Below.refl _ _ | (refine Below.setCell ?_ (by first | (simp; done) | (simp; omega)) _) | (refine Below.alloc ?_ (by first | (simp; done) | (simp; omega)) _) | refine pw_below_drewN ?_ _ | refine below_drew ?_)

set_option maxHeartbeats 1000000 in
set_option maxRecDepth 100000 in
theorem rft8 (w : World) (sw : Int) (SA : Option Addr) (fs : List S28) (sc : Nat) (f a b n : Int) (hC : k28.C w SA fs.length fs) (hs0 : 0 ≤ sw) (hs1 : sw ≤ 1000000) (hf0 : 0 ≤ f) (hf1 : f < fs.length) :
    Calls Try.prog 25 #[.agg #[.int .i64 sw, .slice SA fs.length sc], .int .i64 f, .agg #[.int .i64 8, .int .i64 a, .int .i64 b, .int .u32 n]] w (RfPost w (fitP sw fs f ⟨8, a, b, n⟩)) := by
  obtain ⟨ad, A4, c4, hSA, _, _, _, _, q4, _, _⟩ := at_T28 hC f hf0 hf1
  subst hSA
  have p2 : decide (f < (fs.length : Int)) = true := decide_eq_true hf1
  have p3 : decide (0 ≤ f) = true := decide_eq_true hf0
  by_cases hn : n = 0
  · subst hn
    by_cases hb : b = 0
    · subst hb
      by_cases h0 : 0 ≤ a
      · have h0' : decide (0 ≤ a) = true := decide_eq_true h0
        go_enter Try.func25, Try.ntmps25
        go_upto_region 20 with (fail)
        obtain ⟨V, hV⟩ : ∃ V, V = (w.alloc (.cells #[.int .i64 sw, .slice (some ad) fs.length sc] 31)).alloc (.cells #[.int .i64 8, .int .i64 a, .int .i64 0, .int .u32 0] 25) := ⟨_, rfl⟩
        rw [← hV]
        have hB : Below w.heap.size w V := by rw [hV]; exact ((Below.refl _ _).alloc (Nat.le_refl _) _).alloc (by simp) _
        have hb0 : V.heap[w.heap.size]? = some (.cells #[.int .i64 sw, .slice (some ad) fs.length sc] 31 (0, 0)) := by rw [hV]; exact blk_alloc (heap_alloc_new w _) _
        have hb1 : V.heap[w.heap.size + 1]? = some (.cells #[.int .i64 8, .int .i64 a, .int .i64 0, .int .u32 0] 25 (0, 0)) := by rw [hV]; exact (congrArg (fun k => (World.alloc _ _).heap[k]?) (by simp)).trans (heap_alloc_new (w.alloc _) _)
        have x1 : V.cell? ⟨w.heap.size, 1, none⟩ = some (.slice (some ad) fs.length sc) := by rw [blk_cell hb0]; rfl
        have x2 : V.cell? ⟨w.heap.size + 1, 1, none⟩ = some (.int .i64 a) := by rw [blk_cell hb1]; rfl
        have q5 := pw_cell_below hB q4
        clear q4 hC hV hb0 hb1
        go_quiet (fail)
        go_wp2_with fail
        go_ret
        refine ⟨_, rfl, fun h => ?_, pw_below_drewN hB _⟩
        simp at h; simp [fitP, h0, h]
      · have h0' : decide (0 ≤ a) = false := decide_eq_false h0
        go_enter Try.func25, Try.ntmps25
        go_upto_region 20 with (fail)
        obtain ⟨V, hV⟩ : ∃ V, V = (w.alloc (.cells #[.int .i64 sw, .slice (some ad) fs.length sc] 31)).alloc (.cells #[.int .i64 8, .int .i64 a, .int .i64 0, .int .u32 0] 25) := ⟨_, rfl⟩
        rw [← hV]
        have hB : Below w.heap.size w V := by rw [hV]; exact ((Below.refl _ _).alloc (Nat.le_refl _) _).alloc (by simp) _
        have hb0 : V.heap[w.heap.size]? = some (.cells #[.int .i64 sw, .slice (some ad) fs.length sc] 31 (0, 0)) := by rw [hV]; exact blk_alloc (heap_alloc_new w _) _
        have hb1 : V.heap[w.heap.size + 1]? = some (.cells #[.int .i64 8, .int .i64 a, .int .i64 0, .int .u32 0] 25 (0, 0)) := by rw [hV]; exact (congrArg (fun k => (World.alloc _ _).heap[k]?) (by simp)).trans (heap_alloc_new (w.alloc _) _)
        have x1 : V.cell? ⟨w.heap.size, 1, none⟩ = some (.slice (some ad) fs.length sc) := by rw [blk_cell hb0]; rfl
        have x2 : V.cell? ⟨w.heap.size + 1, 1, none⟩ = some (.int .i64 a) := by rw [blk_cell hb1]; rfl
        have q5 := pw_cell_below hB q4
        clear q4 hC hV hb0 hb1
        go_quiet (fail)
        go_wp2_with fail
        go_ret
        refine ⟨_, rfl, fun h => ?_, pw_below_drewN hB _⟩
        simp at h
    · have hb' : (b != 0) = true := by simpa using hb
      go_enter Try.func25, Try.ntmps25
      go_wp2_with fail
      go_ret
      refine ⟨_, rfl, fun h => ?_, ?_⟩
      · simp at h
      · repeat (first | exact Below.refl _ _ | (refine Below.setCell ?_ (by first | (simp; done) | (simp; omega)) _) | (refine Below.alloc ?_ (by first | (simp; done) | (simp; omega)) _) | refine pw_below_drewN ?_ _ | refine below_drew ?_)
  · have hn' : (n != 0) = true := by simpa using hn
    go_enter Try.func25, Try.ntmps25
    go_wp2_with fail
    go_ret
    refine ⟨_, rfl, fun h => ?_, ?_⟩
    · simp at h
    · repeat (first | exact Below.refl _ _ | (refine Below.setCell ?_ (by first | (simp; done) | (simp; omega)) _) | (refine Below.alloc ?_ (by first | (simp; done) | (simp; omega)) _) | refine pw_below_drewN ?_ _ | refine below_drew ?_)

set_option maxHeartbeats 1000000 in
set_option maxRecDepth 100000 in
theorem rft9 (w : World) (sw : Int) (SA : Option Addr) (fs : List S28) (sc : Nat) (f a b n : Int) (hC : k28.C w SA fs.length fs) (hs0 : 0 ≤ sw) (hs1 : sw ≤ 1000000) (hf0 : 0 ≤ f) (hf1 : f < fs.length) :
    Calls Try.prog 25 #[.agg #[.int .i64 sw, .slice SA fs.length sc], .int .i64 f, .agg #[.int .i64 9, .int .i64 a, .int .i64 b, .int .u32 n]] w (RfPost w (fitP sw fs f ⟨9, a, b, n⟩)) := by
  obtain ⟨ad, A4, c4, hSA, _, _, _, _, q4, _, _⟩ := at_T28 hC f hf0 hf1
  subst hSA
  have p2 : decide (f < (fs.length : Int)) = true := decide_eq_true hf1
  have p3 : decide (0 ≤ f) = true := decide_eq_true hf0
  by_cases hn : n = 0
  · subst hn
    by_cases hb : b = 0
    · subst hb
      by_cases h0 : 0 ≤ a
      · have h0' : decide (0 ≤ a) = true := decide_eq_true h0
        go_enter Try.func25, Try.ntmps25
        go_upto_region 20 with (fail)
        obtain ⟨V, hV⟩ : ∃ V, V = (w.alloc (.cells #[.int .i64 sw, .slice (some ad) fs.length sc] 31)).alloc (.cells #[.int .i64 9, .int .i64 a, .int .i64 0, .int .u32 0] 25) := ⟨_, rfl⟩
        rw [← hV]
        have hB : Below w.heap.size w V := by rw [hV]; exact ((Below.refl _ _).alloc (Nat.le_refl _) _).alloc (by simp) _
        have hb0 : V.heap[w.heap.size]? = some (.cells #[.int .i64 sw, .slice (some ad) fs.length sc] 31 (0, 0)) := by rw [hV]; exact blk_alloc (heap_alloc_new w _) _
        have hb1 : V.heap[w.heap.size + 1]? = some (.cells #[.int .i64 9, .int .i64 a, .int .i64 0, .int .u32 0] 25 (0, 0)) := by rw [hV]; exact (congrArg (fun k => (World.alloc _ _).heap[k]?) (by simp)).trans (heap_alloc_new (w.alloc _) _)
        have x1 : V.cell? ⟨w.heap.size, 1, none⟩ = some (.slice (some ad) fs.length sc) := by rw [blk_cell hb0]; rfl
        have x2 : V.cell? ⟨w.heap.size + 1, 1, none⟩ = some (.int .i64 a) := by rw [blk_cell hb1]; rfl
        have q5 := pw_cell_below hB q4
        clear q4 hC hV hb0 hb1
        go_quiet (fail)
        go_wp2_with fail
        go_ret
        refine ⟨_, rfl, fun h => ?_, pw_below_drewN hB _⟩
        simp at h; simp [fitP, h0, h]
      · have h0' : decide (0 ≤ a) = false := decide_eq_false h0
        go_enter Try.func25, Try.ntmps25
        go_upto_region 20 with (fail)
        obtain ⟨V, hV⟩ : ∃ V, V = (w.alloc (.cells #[.int .i64 sw, .slice (some ad) fs.length sc] 31)).alloc (.cells #[.int .i64 9, .int .i64 a, .int .i64 0, .int .u32 0] 25) := ⟨_, rfl⟩
        rw [← hV]
        have hB : Below w.heap.size w V := by rw [hV]; exact ((Below.refl _ _).alloc (Nat.le_refl _) _).alloc (by simp) _
        have hb0 : V.heap[w.heap.size]? = some (.cells #[.int .i64 sw, .slice (some ad) fs.length sc] 31 (0, 0)) := by rw [hV]; exact blk_alloc (heap_alloc_new w _) _
        have hb1 : V.heap[w.heap.size + 1]? = some (.cells #[.int .i64 9, .int .i64 a, .int .i64 0, .int .u32 0] 25 (0, 0)) := by rw [hV]; exact (congrArg (fun k => (World.alloc _ _).heap[k]?) (by simp)).trans (heap_alloc_new (w.alloc _) _)
        have x1 : V.cell? ⟨w.heap.size, 1, none⟩ = some (.slice (some ad) fs.length sc) := by rw [blk_cell hb0]; rfl
        have x2 : V.cell? ⟨w.heap.size + 1, 1, none⟩ = some (.int .i64 a) := by rw [blk_cell hb1]; rfl
        have q5 := pw_cell_below hB q4
        clear q4 hC hV hb0 hb1
        go_quiet (fail)
        go_wp2_with fail
        go_ret
        refine ⟨_, rfl, fun h => ?_, pw_below_drewN hB _⟩
        simp at h
    · have hb' : (b != 0) = true := by simpa using hb
      go_enter Try.func25, Try.ntmps25
      go_wp2_with fail
      go_ret
      refine ⟨_, rfl, fun h => ?_, ?_⟩
      · simp at h
      · repeat (first | exact Below.refl _ _ | (refine Below.setCell ?_ (by first | (simp; done) | (simp; omega)) _) | (refine Below.alloc ?_ (by first | (simp; done) | (simp; omega)) _) | refine pw_below_drewN ?_ _ | refine below_drew ?_)
  · have hn' : (n != 0) = true := by simpa using hn
    go_enter Try.func25, Try.ntmps25
    go_wp2_with fail
    go_ret
    refine ⟨_, rfl, fun h => ?_, ?_⟩
    · simp at h
    · repeat (first | exact Below.refl _ _ | (refine Below.setCell ?_ (by first | (simp; done) | (simp; omega)) _) | (refine Below.alloc ?_ (by first | (simp; done) | (simp; omega)) _) | refine pw_below_drewN ?_ _ | refine below_drew ?_)

set_option maxHeartbeats 1000000 in
set_option maxRecDepth 100000 in
theorem rft10 (w : World) (sw : Int) (SA : Option Addr) (fs : List S28) (sc : Nat) (f a b n : Int) (hC : k28.C w SA fs.length fs) (hs0 : 0 ≤ sw) (hs1 : sw ≤ 1000000) (hf0 : 0 ≤ f) (hf1 : f < fs.length) :
    Calls Try.prog 25 #[.agg #[.int .i64 sw, .slice SA fs.length sc], .int .i64 f, .agg #[.int .i64 10, .int .i64 a, .int .i64 b, .int .u32 n]] w (RfPost w (fitP sw fs f ⟨10, a, b, n⟩)) := by
  by_cases hn : n = 0
  · subst hn
    by_cases hb : b = 0
    · subst hb
      by_cases h0 : 0 ≤ a
      · have h0' : decide (0 ≤ a) = true := decide_eq_true h0
        go_enter Try.func25, Try.ntmps25
        go_wp2_with fail
        go_ret
        refine ⟨_, rfl, fun h => ?_, ?_⟩
        · simp at h; simp [fitP, h0, h]
        · repeat (first | exact Below.refl _ _ | (refine Below.setCell ?_ (by first | (simp; done) | (simp; omega)) _) | (refine Below.alloc ?_ (by first | (simp; done) | (simp; omega)) _) | refine pw_below_drewN ?_ _ | refine below_drew ?_)
      · have h0' : decide (0 ≤ a) = false := decide_eq_false h0
        go_enter Try.func25, Try.ntmps25
        go_wp2_with fail
        go_ret
        refine ⟨_, rfl, fun h => ?_, ?_⟩
        · simp at h
        · repeat (first | exact Below.refl _ _ | (refine Below.setCell ?_ (by first | (simp; done) | (simp; omega)) _) | (refine Below.alloc ?_ (by first | (simp; done) | (simp; omega)) _) | refine pw_below_drewN ?_ _ | refine below_drew ?_)
    · have hb' : (b != 0) = true := by simpa using hb
      go_enter Try.func25, Try.ntmps25
      go_wp2_with fail
      go_ret
      refine ⟨_, rfl, fun h => ?_, ?_⟩
      · simp at h
      · repeat (first | exact Below.refl _ _ | (refine Below.setCell ?_ (by first | (simp; done) | (simp; omega)) _) | (refine Below.alloc ?_ (by first | (simp; done) | (simp; omega)) _) | refine pw_below_drewN ?_ _ | refine below_drew ?_)
  · have hn' : (n != 0) = true := by simpa using hn
    go_enter Try.func25, Try.ntmps25
    go_wp2_with fail
    go_ret
    refine ⟨_, rfl, fun h => ?_, ?_⟩
    · simp at h
    · repeat (first | exact Below.refl _ _ | (refine Below.setCell ?_ (by first | (simp; done) | (simp; omega)) _) | (refine Below.alloc ?_ (by first | (simp; done) | (simp; omega)) _) | refine pw_below_drewN ?_ _ | refine below_drew ?_)

set_option maxHeartbeats 1000000 in
set_option maxRecDepth 100000 in
theorem rft11 (w : World) (sw : Int) (SA : Option Addr) (fs : List S28) (sc : Nat) (f a b n : Int) (hC : k28.C w SA fs.length fs) (hs0 : 0 ≤ sw) (hs1 : sw ≤ 1000000) (hf0 : 0 ≤ f) (hf1 : f < fs.length) :
    Calls Try.prog 25 #[.agg #[.int .i64 sw, .slice SA fs.length sc], .int .i64 f, .agg #[.int .i64 11, .int .i64 a, .int .i64 b, .int .u32 n]] w (RfPost w (fitP sw fs f ⟨11, a, b, n⟩)) := by
  by_cases hn : n = 0
  · subst hn
    by_cases hb : b = 0
    · subst hb
      go_enter Try.func25, Try.ntmps25
      go_wp2_with fail
      go_ret
      refine ⟨_, rfl, fun h => ?_, ?_⟩
      · simp at h; simp [fitP, h]
      · repeat (first | exact Below.refl _ _ | (refine Below.setCell ?_ (by first | (simp; done) | (simp; omega)) _) | (refine Below.alloc ?_ (by first | (simp; done) | (simp; omega)) _) | refine pw_below_drewN ?_ _ | refine below_drew ?_)
    · have hb' : (b != 0) = true := by simpa using hb
      go_enter Try.func25, Try.ntmps25
      go_wp2_with fail
      go_ret
      refine ⟨_, rfl, fun h => ?_, ?_⟩
      · simp at h
      · repeat (first | exact Below.refl _ _ | (refine Below.setCell ?_ (by first | (simp; done) | (simp; omega)) _) | (refine Below.alloc ?_ (by first | (simp; done) | (simp; omega)) _) | refine pw_below_drewN ?_ _ | refine below_drew ?_)
  · have hn' : (n != 0) = true := by simpa using hn
    go_enter Try.func25, Try.ntmps25
    go_wp2_with fail
    go_ret
    refine ⟨_, rfl, fun h => ?_, ?_⟩
    · simp at h
    · repeat (first | exact Below.refl _ _ | (refine Below.setCell ?_ (by first | (simp; done) | (simp; omega)) _) | (refine Below.alloc ?_ (by first | (simp; done) | (simp; omega)) _) | refine pw_below_drewN ?_ _ | refine below_drew ?_)

set_option maxHeartbeats 1000000 in
set_option maxRecDepth 100000 in
theorem rft12 (w : World) (sw : Int) (SA : Option Addr) (fs : List S28) (sc : Nat) (f a b n : Int) (hC : k28.C w SA fs.length fs) (hs0 : 0 ≤ sw) (hs1 : sw ≤ 1000000) (hf0 : 0 ≤ f) (hf1 : f < fs.length) :
    Calls Try.prog 25 #[.agg #[.int .i64 sw, .slice SA fs.length sc], .int .i64 f, .agg #[.int .i64 12, .int .i64 a, .int .i64 b, .int .u32 n]] w (RfPost w (fitP sw fs f ⟨12, a, b, n⟩)) := by
  by_cases hn : n = 0
  · subst hn
    by_cases hb : b = 0
    · subst hb
      go_enter Try.func25, Try.ntmps25
      go_wp2_with fail
      go_ret
      refine ⟨_, rfl, fun h => ?_, ?_⟩
      · simp at h; simp [fitP, h]
      · repeat (first | exact Below.refl _ _ | (refine Below.setCell ?_ (by first | (simp; done) | (simp; omega)) _) | (refine Below.alloc ?_ (by first | (simp; done) | (simp; omega)) _) | refine pw_below_drewN ?_ _ | refine below_drew ?_)
    · have hb' : (b != 0) = true := by simpa using hb
      go_enter Try.func25, Try.ntmps25
      go_wp2_with fail
      go_ret
      refine ⟨_, rfl, fun h => ?_, ?_⟩
      · simp at h
      · repeat (first | exact Below.refl _ _ | (refine Below.setCell ?_ (by first | (simp; done) | (simp; omega)) _) | (refine Below.alloc ?_ (by first | (simp; done) | (simp; omega)) _) | refine pw_below_drewN ?_ _ | refine below_drew ?_)
  · have hn' : (n != 0) = true := by simpa using hn
    go_enter Try.func25, Try.ntmps25
    go_wp2_with fail
    go_ret
    refine ⟨_, rfl, fun h => ?_, ?_⟩
    · simp at h
    · repeat (first | exact Below.refl _ _ | (refine Below.setCell ?_ (by first | (simp; done) | (simp; omega)) _) | (refine Below.alloc ?_ (by first | (simp; done) | (simp; omega)) _) | refine pw_below_drewN ?_ _ | refine below_drew ?_)

set_option maxHeartbeats 1000000 in
set_option maxRecDepth 100000 in
theorem rft13 (w : World) (sw : Int) (SA : Option Addr) (fs : List S28) (sc : Nat) (f a b n : Int) (hC : k28.C w SA fs.length fs) (hs0 : 0 ≤ sw) (hs1 : sw ≤ 1000000) (hf0 : 0 ≤ f) (hf1 : f < fs.length) :
    Calls Try.prog 25 #[.agg #[.int .i64 sw, .slice SA fs.length sc], .int .i64 f, .agg #[.int .i64 13, .int .i64 a, .int .i64 b, .int .u32 n]] w (RfPost w (fitP sw fs f ⟨13, a, b, n⟩)) := by
  by_cases hn : n = 0
  · subst hn
    by_cases hb : b = 0
    · subst hb
      go_enter Try.func25, Try.ntmps25
      go_wp2_with fail
      go_ret
      refine ⟨_, rfl, fun h => ?_, ?_⟩
      · simp at h; simp [fitP, h]
      · repeat (first | exact Below.refl _ _ | (refine Below.setCell ?_ (by first | (simp; done) | (simp; omega)) _) | (refine Below.alloc ?_ (by first | (simp; done) | (simp; omega)) _) | refine pw_below_drewN ?_ _ | refine below_drew ?_)
    · have hb' : (b != 0) = true := by simpa using hb
      go_enter Try.func25, Try.ntmps25
      go_wp2_with fail
      go_ret
      refine ⟨_, rfl, fun h => ?_, ?_⟩
      · simp at h
      · repeat (first | exact Below.refl _ _ | (refine Below.setCell ?_ (by first | (simp; done) | (simp; omega)) _) | (refine Below.alloc ?_ (by first | (simp; done) | (simp; omega)) _) | refine pw_below_drewN ?_ _ | refine below_drew ?_)
  · have hn' : (n != 0) = true := by simpa using hn
    go_enter Try.func25, Try.ntmps25
    go_wp2_with fail
    go_ret
    refine ⟨_, rfl, fun h => ?_, ?_⟩
    · simp at h
    · repeat (first | exact Below.refl _ _ | (refine Below.setCell ?_ (by first | (simp; done) | (simp; omega)) _) | (refine Below.alloc ?_ (by first | (simp; done) | (simp; omega)) _) | refine pw_below_drewN ?_ _ | refine below_drew ?_)

set_option maxHeartbeats 1000000 in
set_option maxRecDepth 100000 in
theorem rft_else (w : World) (sw : Int) (SA : Option Addr) (fs : List S28) (sc : Nat) (f op a b n : Int) (g1 : op ≠ 1) (g2 : op ≠ 2) (g3 : op ≠ 3) (g4 : op ≠ 4) (g5 : op ≠ 5) (g6 : op ≠ 6) (g7 : op ≠ 7) (g8 : op ≠ 8) (g9 : op ≠ 9) (g10 : op ≠ 10) (g11 : op ≠ 11) (g12 : op ≠ 12) (g13 : op ≠ 13) :
    Calls Try.prog 25 #[.agg #[.int .i64 sw, .slice SA fs.length sc], .int .i64 f, .agg #[.int .i64 op, .int .i64 a, .int .i64 b, .int .u32 n]] w (RfPost w False) := by
  have e1 : (op == 1) = false := by simpa using g1
  have e2 : (op == 2) = false := by simpa using g2
  have e3 : (op == 3) = false := by simpa using g3
  have e4 : (op == 4) = false := by simpa using g4
  have e5 : (op == 5) = false := by simpa using g5
  have e6 : (op == 6) = false := by simpa using g6
  have e7 : (op == 7) = false := by simpa using g7
  have e8 : (op == 8) = false := by simpa using g8
  have e9 : (op == 9) = false := by simpa using g9
  have e10 : (op == 10) = false := by simpa using g10
  have e11 : (op == 11) = false := by simpa using g11
  have e12 : (op == 12) = false := by simpa using g12
  have e13 : (op == 13) = false := by simpa using g13
  have d1 : (op != 1) = true := by simpa using g1
  have d4 : (op != 4) = true := by simpa using g4
  have d5 : (op != 5) = true := by simpa using g5
  by_cases hn : n = 0
  · subst hn
    by_cases hb : b = 0
    · subst hb
      go_enter Try.func25, Try.ntmps25
      go_wp2_with fail
      go_ret
      refine ⟨_, rfl, fun h => ?_, ?_⟩
      · simp at h
      · repeat (first | exact Below.refl _ _ | (refine Below.setCell ?_ (by first | (simp; done) | (simp; omega)) _) | (refine Below.alloc ?_ (by first | (simp; done) | (simp; omega)) _) | refine pw_below_drewN ?_ _ | refine below_drew ?_)
    · have hb' : (b != 0) = true := by simpa using hb
      go_enter Try.func25, Try.ntmps25
      go_wp2_with fail
      go_ret
      refine ⟨_, rfl, fun h => ?_, ?_⟩
      · simp at h
      · repeat (first | exact Below.refl _ _ | (refine Below.setCell ?_ (by first | (simp; done) | (simp; omega)) _) | (refine Below.alloc ?_ (by first | (simp; done) | (simp; omega)) _) | refine pw_below_drewN ?_ _ | refine below_drew ?_)
  · have hn' : (n != 0) = true := by simpa using hn
    go_enter Try.func25, Try.ntmps25
    go_wp2_with fail
    go_ret
    refine ⟨_, rfl, fun h => ?_, ?_⟩
    · simp at h
    · repeat (first | exact Below.refl _ _ | (refine Below.setCell ?_ (by first | (simp; done) | (simp; omega)) _) | (refine Below.alloc ?_ (by first | (simp; done) | (simp; omega)) _) | refine pw_below_drewN ?_ _ | refine below_drew ?_)

theorem rft_any (w : World) (sw : Int) (SA : Option Addr) (fs : List S28) (sc : Nat) (f : Int) (i : S25) (hC : k28.C w SA fs.length fs) (hs0 : 0 ≤ sw) (hs1 : sw ≤ 1000000) (hf0 : 0 ≤ f) (hf1 : f < fs.length) :
    Calls Try.prog 25 #[.agg #[.int .i64 sw, .slice SA fs.length sc], .int .i64 f, .agg #[.int .i64 i.f0, .int .i64 i.f1, .int .i64 i.f2, .int .u32 i.f3]] w (RfPost w (fitP sw fs f i)) := by
  obtain ⟨op, a, b, n⟩ := i
  dsimp only
  by_cases g1 : op = 1
  · subst g1; exact rft1 w sw SA fs sc f a b n hC hs0 hs1 hf0 hf1
  by_cases g2 : op = 2
  · subst g2; exact rft2 w sw SA fs sc f a b n hC hs0 hs1 hf0 hf1
  by_cases g3 : op = 3
  · subst g3; exact rft3 w sw SA fs sc f a b n hC hs0 hs1 hf0 hf1
  by_cases g4 : op = 4
  · subst g4; exact rft4 w sw SA fs sc f a b n hC hs0 hs1 hf0 hf1
  by_cases g5 : op = 5
  · subst g5; exact rft5 w sw SA fs sc f a b n hC hs0 hs1 hf0 hf1
  by_cases g6 : op = 6
  · subst g6; exact rft6 w sw SA fs sc f a b n hC hs0 hs1 hf0 hf1
  by_cases g7 : op = 7
  · subst g7; exact rft7 w sw SA fs sc f a b n hC hs0 hs1 hf0 hf1
  by_cases g8 : op = 8
  · subst g8; exact rft8 w sw SA fs sc f a b n hC hs0 hs1 hf0 hf1
  by_cases g9 : op = 9
  · subst g9; exact rft9 w sw SA fs sc f a b n hC hs0 hs1 hf0 hf1
  by_cases g10 : op = 10
  · subst g10; exact rft10 w sw SA fs sc f a b n hC hs0 hs1 hf0 hf1
  by_cases g11 : op = 11
  · subst g11; exact rft11 w sw SA fs sc f a b n hC hs0 hs1 hf0 hf1
  by_cases g12 : op = 12
  · subst g12; exact rft12 w sw SA fs sc f a b n hC hs0 hs1 hf0 hf1
  by_cases g13 : op = 13
  · subst g13; exact rft13 w sw SA fs sc f a b n hC hs0 hs1 hf0 hf1
  refine (rft_else w sw SA fs sc f op a b n g1 g2 g3 g4 g5 g6 g7 g8 g9 g10 g11 g12 g13).mono ?_
  rintro e w' ⟨r, h1, h2, h3⟩
  exact ⟨r, h1, fun h => (h2 h).elim, h3⟩

end Go.Proofs.Ytlngcolnjgloaaa
