/- stack.fun and stack.Right say yes of what may be. Conditions: it may be. -/
import Derived.Test.YtlngcolnjgloaaaFit
namespace Go.Proofs.Ytlngcolnjgloaaa
set_option linter.unusedVariables false
set_option linter.unusedSimpArgs false
open Go.RowKit Go.Proofs.YtlngcolnjgloaaaW.PrintWords PStackRuns

def fitP (sw : Int) (fs : List S28) (f : Int) (i : S25) : Prop :=
  if i.f0 = 1 then i.f1 = 0 ∧ i.f2 = 0
  else if i.f0 = 2 ∨ i.f0 = 3 then i.f2 = 0 ∧ i.f3 = 0 ∧ 0 ≤ i.f1 ∧ i.f1 < sw
  else if i.f0 = 4 ∨ i.f0 = 5 then i.f3 = 0 ∧ 0 ≤ i.f1 ∧ 1 ≤ i.f2 ∧ i.f2 ≤ 4096 ∧ i.f1 ≤ sw - i.f2
  else if i.f0 = 6 then i.f2 = 0 ∧ i.f3 = 0 ∧ 4 ≤ i.f1 ∧ i.f1 ≤ 15
  else if i.f0 = 7 ∨ i.f0 = 11 ∨ i.f0 = 12 ∨ i.f0 = 13 then i.f1 = 0 ∧ i.f2 = 0 ∧ i.f3 = 0
  else if i.f0 = 8 ∨ i.f0 = 9 then i.f2 = 0 ∧ i.f3 = 0 ∧ 0 ≤ i.f1 ∧ i.f1 < (rd_T28 fs f).f4.length
  else if i.f0 = 10 then i.f2 = 0 ∧ i.f3 = 0 ∧ 0 ≤ i.f1 ∧ i.f1 < f
  else False
instance (sw : Int) (fs : List S28) (f : Int) (i : S25) : Decidable (fitP sw fs f i) := by unfold fitP; infer_instance

theorem fits_yes (w : World) (sw : Int) (SA : Option Addr) (fs : List S28) (sc : Nat) (f : Int) (i : S25) (hC : k28.C w SA fs.length fs) (hs0 : 0 ≤ sw) (hs1 : sw ≤ 1000000) (hf0 : 0 ≤ f) (hf1 : f < fs.length) (h : fitP sw fs f i) :
    Calls Try.prog 40 #[.agg #[.int .i64 sw, .slice SA fs.length sc], .int .i64 f, .agg #[.int .i64 i.f0, .int .i64 i.f1, .int .i64 i.f2, .int .u32 i.f3]] w (YesPost w) := by
  obtain ⟨op, a, b, n⟩ := i
  unfold fitP at h
  dsimp only at h ⊢
  split at h
  · rename_i e; subst e
    obtain ⟨rfl, rfl⟩ := h
    exact fits_push w sw SA fs sc f n
  split at h
  · rename_i e
    obtain ⟨rfl, rfl, h0, h1⟩ := h
    rcases e with rfl | rfl
    · exact fits_load w sw SA fs sc f a h0 h1
    · exact fits_store w sw SA fs sc f a h0 h1
  split at h
  · rename_i e
    obtain ⟨rfl, h0, h1, h2, h3⟩ := h
    rcases e with rfl | rfl
    · exact fits_aload w sw SA fs sc f a b hs0 hs1 h0 h1 h2 h3
    · exact fits_astore w sw SA fs sc f a b hs0 hs1 h0 h1 h2 h3
  split at h
  · rename_i e; subst e
    obtain ⟨rfl, rfl, h0, h1⟩ := h
    exact fits_op w sw SA fs sc f a h0 h1
  split at h
  · rename_i e
    obtain ⟨rfl, rfl, rfl⟩ := h
    rcases e with rfl | rfl | rfl | rfl
    · exact fits_nott w sw SA fs sc f
    · exact fits_ret w sw SA fs sc f
    · exact fits_get w sw SA fs sc f
    · exact fits_put w sw SA fs sc f
  split at h
  · rename_i e
    obtain ⟨rfl, rfl, h0, h1⟩ := h
    rcases e with rfl | rfl
    · exact fits_jump w sw SA fs sc f a hC hf0 hf1 h0 h1
    · exact fits_zero w sw SA fs sc f a hC hf0 hf1 h0 h1
  split at h
  · rename_i e; subst e
    obtain ⟨rfl, rfl, h0, h1⟩ := h
    exact fits_call w sw SA fs sc f a h0 h1
  cases h

def funP (sw : Int) (fs : List S28) (f : Int) : Prop :=
  0 ≤ (rd_T28 fs f).f0 ∧ (rd_T28 fs f).f0 ≤ (rd_T28 fs f).f1 ∧ 0 ≤ (rd_T28 fs f).f2 ∧ (rd_T28 fs f).f1 ≤ sw ∧ (rd_T28 fs f).f2 ≤ sw - (rd_T28 fs f).f1 ∧
  (∀ i ∈ (rd_T28 fs f).f4, fitP sw fs f i) ∧ ∃ K r, depthsF fs f K = some (r, true)

set_option maxHeartbeats 1000000 in
set_option maxRecDepth 100000 in
theorem fun_yes (w0 : World) (sw : Int) (SA : Option Addr) (fs : List S28) (sc : Nat) (f : Int) (hC : k28.C w0 SA fs.length fs) (hsc : fs.length ≤ sc) (hs0 : 0 ≤ sw) (hs1 : sw ≤ 1000000) (hf0 : 0 ≤ f) (hf1 : f < fs.length) (h : funP sw fs f) :
    Calls Try.prog 23 #[.agg #[.int .i64 sw, .slice SA fs.length sc], .int .i64 f] w0 (YesPost w0) := by
  unfold funP at h
  obtain ⟨g, hg⟩ : ∃ g, g = rd_T28 fs f := ⟨_, rfl⟩
  obtain ⟨ad, A4, c4, hSA, q0, q1, q2, q3, q4, l4, g4⟩ := at_T28 hC f hf0 hf1
  subst hSA
  rw [← hg] at h q0 q1 q2 q3 q4 l4 g4
  obtain ⟨k0, k1, k2, k3, k4, hfit, K, r, hd⟩ := h
  have hd' := hd
  have hn : g.f4.length ≤ 1000000 := by
    unfold depthsF at hd'
    rw [if_pos ⟨hf0, hf1⟩, ← hg] at hd'
    split at hd'
    · rename_i h; exact h.2
    · cases hd'
  clear hd'
  have d0 : decide (g.f0 < 0) = false := decide_eq_false (by omega)
  have d1 : decide (g.f1 < g.f0) = false := decide_eq_false (by omega)
  have d2 : decide (g.f2 < 0) = false := decide_eq_false (by omega)
  have d3 : decide (sw < g.f1) = false := decide_eq_false (by omega)
  have d4 : decide (sw - g.f1 < g.f2) = false := decide_eq_false (by omega)
  have d5 : IntKind.i64.wrap (sw - g.f1) = sw - g.f1 := IntWalk.i64_in _ (by omega)
  have p0 : (0 : Int) ≤ f := hf0
  have p1 : f < (fs.length : Int) := hf1
  have p2 : decide (f < (fs.length : Int)) = true := decide_eq_true hf1
  obtain ⟨W1, hW1⟩ : ∃ W1, W1 = w0.alloc (.cells #[.int .i64 sw, .slice (some ad) fs.length sc] 31) := ⟨_, rfl⟩
  have hB1 : Below w0.heap.size w0 W1 := by rw [hW1]; exact (Below.refl _ _).alloc (Nat.le_refl _) _
  have hbox : W1.heap[w0.heap.size]? = some (.cells #[.int .i64 sw, .slice (some ad) fs.length sc] 31 (0, 0)) := by rw [hW1]; exact heap_alloc_new _ _
  have q0 := pw_cell_below hB1 q0
  have q1 := pw_cell_below hB1 q1
  have q2 := pw_cell_below hB1 q2
  have q3 := pw_cell_below hB1 q3
  have q4 := pw_cell_below hB1 q4
  have b0 : W1.cell? ⟨w0.heap.size, 0, none⟩ = some (.int .i64 sw) := by rw [blk_cell hbox]; rfl
  have b1 : W1.cell? ⟨w0.heap.size, 1, none⟩ = some (.slice (some ad) fs.length sc) := by rw [blk_cell hbox]; rfl
  obtain ⟨W2, hW2⟩ : ∃ W2, W2 = W1.alloc (.cells #[.int .i64 g.f0, .int .i64 g.f1, .int .i64 g.f2, .bool g.f3, .slice A4 g.f4.length c4] 28) := ⟨_, rfl⟩
  have hB2 : Below w0.heap.size w0 W2 := by rw [hW2]; exact hB1.alloc hB1.size _
  have hfb : W2.heap[W1.heap.size]? = some (.cells #[.int .i64 g.f0, .int .i64 g.f1, .int .i64 g.f2, .bool g.f3, .slice A4 g.f4.length c4] 28 (0, 0)) := by rw [hW2]; exact heap_alloc_new _ _
  have hbox2 : W2.heap[w0.heap.size]? = some (.cells #[.int .i64 sw, .slice (some ad) fs.length sc] 31 (0, 0)) := by rw [hW2]; exact blk_alloc hbox _
  have HC := Lib.hid hC
  have HD := Lib.hid hd
  have H4 := Lib.hid (And.intro l4 g4)
  have HG := Lib.hid hg
  have HFIT := Lib.hid hfit
  have E1 := Lib.hid hW1
  have E2 := Lib.hid hW2
  have HB2 := Lib.hid hB2
  have HFB := Lib.hid hfb
  have HBX := Lib.hid hbox2
  clear hC hd l4 g4 hg hfit hW1 hW2 hB1 hbox hB2 hfb hbox2
  go_enter Try.func23, Try.ntmps23
  go_upto_region 1 with (fail)
  rw [← E1.out]
  go_upto_region 2 with (fail)
  rw [← E2.out]
  clear q0 q1 q2 q3 q4 b0 b1
  have b0 : W2.cell? ⟨w0.heap.size, 0, none⟩ = some (.int .i64 sw) := by rw [blk_cell HBX.out]; rfl
  have f0 : W2.cell? ⟨W1.heap.size, 0, none⟩ = some (.int .i64 g.f0) := by rw [blk_cell HFB.out]; rfl
  have f1 : W2.cell? ⟨W1.heap.size, 1, none⟩ = some (.int .i64 g.f1) := by rw [blk_cell HFB.out]; rfl
  have f2 : W2.cell? ⟨W1.heap.size, 2, none⟩ = some (.int .i64 g.f2) := by rw [blk_cell HFB.out]; rfl
  have f4 : W2.cell? ⟨W1.heap.size, 4, none⟩ = some (.slice A4 g.f4.length c4) := by rw [blk_cell HFB.out]; rfl
  go_wp2_with fail
  clear b0 f0 f1 f2 f4 d0 d1 d2 d3 d4 d5
  go_loopw [50] (fun v w' => ∃ j : Nat, j ≤ g.f4.length ∧ v = .int .i64 (j : Int) ∧ RowKit.Hid (w'.heap[w0.heap.size]? = some (.cells #[.int .i64 sw, .slice (some ad) fs.length sc] 31 (0, 0))) ∧ RowKit.Hid (Below w0.heap.size w0 w')) (fun v _ => g.f4.length - (intOf v).toNat)
  case atStart => exact ⟨0, Nat.zero_le _, rfl, HBX, HB2⟩
  case round =>
    obtain ⟨j, hjn, rfl, hbx, hb⟩ := hrel
    have b0 : wr.cell? ⟨w0.heap.size, 0, none⟩ = some (.int .i64 sw) := by rw [blk_cell hbx.out]; rfl
    have b1 : wr.cell? ⟨w0.heap.size, 1, none⟩ = some (.slice (some ad) fs.length sc) := by rw [blk_cell hbx.out]; rfl
    by_cases hj : j < g.f4.length
    · have hj0 : decide ((j : Int) < (g.f4.length : Int)) = true := decide_eq_true (by omega)
      have p3 : (0 : Int) ≤ (j : Int) := by omega
      have p4 : (j : Int) < (g.f4.length : Int) := by omega
      obtain ⟨ai, hAi, x0, x1, x2, x3⟩ := at_T25 H4.out.2 (j : Int) p3 p4
      subst hAi
      obtain ⟨i, hi⟩ : ∃ i, i = rd_T25 g.f4 (j : Int) := ⟨_, rfl⟩
      have him : i ∈ g.f4 := by
        rw [hi]
        have : rd_T25 g.f4 (j : Int) = g.f4[j] := by simp [rd_T25, rdOf, List.getD_eq_getElem?_getD, hj]
        rw [this]
        exact List.getElem_mem hj
      rw [← hi] at x0 x1 x2 x3
      rw [Int.toNat_natCast] at x0 x1 x2 x3
      have x0 := pw_cell_below hb.out x0
      have x1 := pw_cell_below hb.out x1
      have x2 := pw_cell_below hb.out x2
      have x3 := pw_cell_below hb.out x3
      have HFI := Lib.hid (HFIT.out i him)
      clear hi him
      have hj1 : IntKind.i64.wrap ((j : Int) + 1) = (j : Int) + 1 := IntWalk.i64_in _ (by omega)
      go_upto_region 7 with (fail)
      obtain ⟨W3, hW3⟩ : ∃ W3, W3 = wr.alloc (.cells #[.int .i64 i.f0, .int .i64 i.f1, .int .i64 i.f2, .int .u32 i.f3] 25) := ⟨_, rfl⟩
      rw [← hW3]
      have hB3 : Below wr.heap.size wr W3 := by rw [hW3]; exact (Below.refl _ _).alloc (Nat.le_refl _) _
      have hi3 : W3.heap[wr.heap.size]? = some (.cells #[.int .i64 i.f0, .int .i64 i.f1, .int .i64 i.f2, .int .u32 i.f3] 25 (0, 0)) := by rw [hW3]; exact heap_alloc_new _ _
      have hb3 := below_then hb.out hb.out.size hB3
      have hbx3 := blk_below hbx.out hB3
      clear b0 b1 x0 x1 x2 x3
      have b0 : W3.cell? ⟨w0.heap.size, 0, none⟩ = some (.int .i64 sw) := by rw [blk_cell hbx3]; rfl
      have b1 : W3.cell? ⟨w0.heap.size, 1, none⟩ = some (.slice (some ad) fs.length sc) := by rw [blk_cell hbx3]; rfl
      have y0 : W3.cell? ⟨wr.heap.size, 0, none⟩ = some (.int .i64 i.f0) := by rw [blk_cell hi3]; rfl
      have y1 : W3.cell? ⟨wr.heap.size, 1, none⟩ = some (.int .i64 i.f1) := by rw [blk_cell hi3]; rfl
      have y2 : W3.cell? ⟨wr.heap.size, 2, none⟩ = some (.int .i64 i.f2) := by rw [blk_cell hi3]; rfl
      have y3 : W3.cell? ⟨wr.heap.size, 3, none⟩ = some (.int .u32 i.f3) := by rw [blk_cell hi3]; rfl
      have HB3 := Lib.hid hb3
      have HBX3 := Lib.hid hbx3
      have HC3 := Lib.hid (Kd.C_below HC.out hb3)
      clear hW3 hB3 hi3 hb3 hbx3 hbx hb
      go_wp2_with (go_at_call 40; refine (fits_yes W3 sw _ fs sc f i HC3.out hs0 hs1 hf0 hf1 HFI.out).mono ?_; rintro e w4 ⟨rfl, hb4⟩; have HB4 := Lib.hid (below_then HB3.out HB3.out.size hb4); have HBX4 := Lib.hid (blk_below HBX3.out hb4); clear hb4 b0 b1 y0 y1 y2 y3)
      go_roundw
      case rel => exact ⟨j + 1, by omega, by go_num, HBX4, HB4⟩
      case measure => simp [intOf]; omega
    · have hj0 : decide ((j : Int) < (g.f4.length : Int)) = false := decide_eq_false (by omega)
      have HC3 := Lib.hid (Kd.C_below HC.out hb.out)
      go_wp2_with (go_at_call 18; refine (depths_any wr sw _ sc fs f K r true HC3.out hsc HD.out).mono ?_; rintro e w4 ⟨v, rfl, _, hb4⟩; have HB4 := Lib.hid (below_then hb.out hb.out.size hb4); clear hb4 b0 b1)
      go_ret
      exact ⟨rfl, HB4.out⟩
end Go.Proofs.Ytlngcolnjgloaaa
