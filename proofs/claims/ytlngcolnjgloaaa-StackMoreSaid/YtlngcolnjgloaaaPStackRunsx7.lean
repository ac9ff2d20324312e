-- PRINTED BY print.sh 35421559b90ae4d0a3588c463048766b98c2df88dd9212a6774a882060cdf62d: not written by this session
import Derived.Test.YtlngcolnjgloaaaPStackRunsx0
namespace Go.Proofs.Ytlngcolnjgloaaa.PStackRuns
open Go.RowKit Go.Proofs.YtlngcolnjgloaaaW.PrintWords Go.Proofs.YtlngcolnjgloaaaW.PrintLast Go.Proofs.YtlngcolnjgloaaaW.PrintMore
attribute [local go_sem] max2_int min2_int max_two min_two max_three min_three max_four min_four   -- for this text's walks alone
set_option linter.unusedVariables false
set_option linter.unusedSimpArgs false

/-! ### seedcornref20_Takes: function 41 -/
mutual
def seedcornref20_Takes.j0 : Nat → Int → Int → Bool → Int → List (S28) → Int → Int → Int → Int → Option (Int × Int × Bool)
  | 0, _, _, _, _, _, _, _, _, _ => none
  | k + 1, x1, x10, x11, x172000, x172001, x173000, x173001, x173002, x173003 => if x11 = true then (some (0, 1, true)) else (if x10 = 3 then (seedcornref20_Takes.j1 k x1 x10 (x10 == 3) x172000 x172001 x173000 x173001 x173002 x173003) else (if x10 = 9 then (seedcornref20_Takes.j1 k x1 x10 (x10 == 9) x172000 x172001 x173000 x173001 x173002 x173003) else (seedcornref20_Takes.j1 k x1 x10 (x10 == 13) x172000 x172001 x173000 x173001 x173002 x173003)))
def seedcornref20_Takes.j1 : Nat → Int → Int → Bool → Int → List (S28) → Int → Int → Int → Int → Option (Int × Int × Bool)
  | 0, _, _, _, _, _, _, _, _, _ => none
  | k + 1, x1, x10, x15, x172000, x172001, x173000, x173001, x173002, x173003 => if x15 = true then (some (1, 0, true)) else (if x10 = 4 then (seedcornref20_Takes.j2 k x1 x10 (x10 == 4) x172000 x172001 x173000 x173001 x173002 x173003) else (seedcornref20_Takes.j2 k x1 x10 (x10 == 7) x172000 x172001 x173000 x173001 x173002 x173003))
def seedcornref20_Takes.j2 : Nat → Int → Int → Bool → Int → List (S28) → Int → Int → Int → Int → Option (Int × Int × Bool)
  | 0, _, _, _, _, _, _, _, _, _ => none
  | k + 1, x1, x10, x19, x172000, x172001, x173000, x173001, x173002, x173003 => if x19 = true then (some (1, 1, true)) else (if x10 = 5 then (some (2, 0, true)) else (if x10 = 6 then (some (2, 1, true)) else (if x10 = 8 then (some (0, 0, true)) else (if x10 = 10 then (if x173001 < 0 then (seedcornref20_Takes.j3 k true x172000 x172001 x173000 x173001 x173002 x173003) else (seedcornref20_Takes.j3 k (decide (x173001 ≥ (x172001.length : Int))) x172000 x172001 x173000 x173001 x173002 x173003)) else (if x10 = 11 then (if 0 ≤ x1 then (if x1 < (x172001.length : Int) then (if (rd_T28 x172001 x1).f3 = true then (some (1, 0, true)) else (some (0, 0, true))) else (none)) else (none)) else (some (0, 0, false)))))))
def seedcornref20_Takes.j3 : Nat → Bool → Int → List (S28) → Int → Int → Int → Int → Option (Int × Int × Bool)
  | 0, _, _, _, _, _, _, _ => none
  | k + 1, x40, x172000, x172001, x173000, x173001, x173002, x173003 => if x40 = true then (some (0, 0, false)) else (if 0 ≤ x173001 then (if x173001 < (x172001.length : Int) then (if (rd_T28 x172001 x173001).f3 = true then (some ((rd_T28 x172001 x173001).f0, 1, true)) else (some ((rd_T28 x172001 x173001).f0, 0, true))) else (none)) else (none))
end
def seedcornref20_Takes.f (k : Nat) (a0_0 : Int) (l0_1 : List (S28)) (a1 : Int) (a2_0 : Int) (a2_1 : Int) (a2_2 : Int) (a2_3 : Int) : Option (Int × Int × Bool) := if a2_0 = 1 then (seedcornref20_Takes.j0 k a1 a2_0 (a2_0 == 1) a0_0 l0_1 a2_0 a2_1 a2_2 a2_3) else (if a2_0 = 2 then (seedcornref20_Takes.j0 k a1 a2_0 (a2_0 == 2) a0_0 l0_1 a2_0 a2_1 a2_2 a2_3) else (seedcornref20_Takes.j0 k a1 a2_0 (a2_0 == 12) a0_0 l0_1 a2_0 a2_1 a2_2 a2_3))
theorem seedcornref20_Takes.mono_l : ∀ k, (∀ y0 y1 y2 y3 y4 y5 y6 y7 y8, LeO (seedcornref20_Takes.j0 k y0 y1 y2 y3 y4 y5 y6 y7 y8) (seedcornref20_Takes.j0 (k + 1) y0 y1 y2 y3 y4 y5 y6 y7 y8)) ∧ (∀ y0 y1 y2 y3 y4 y5 y6 y7 y8, LeO (seedcornref20_Takes.j1 k y0 y1 y2 y3 y4 y5 y6 y7 y8) (seedcornref20_Takes.j1 (k + 1) y0 y1 y2 y3 y4 y5 y6 y7 y8)) ∧ (∀ y0 y1 y2 y3 y4 y5 y6 y7 y8, LeO (seedcornref20_Takes.j2 k y0 y1 y2 y3 y4 y5 y6 y7 y8) (seedcornref20_Takes.j2 (k + 1) y0 y1 y2 y3 y4 y5 y6 y7 y8)) ∧ (∀ y0 y1 y2 y3 y4 y5 y6, LeO (seedcornref20_Takes.j3 k y0 y1 y2 y3 y4 y5 y6) (seedcornref20_Takes.j3 (k + 1) y0 y1 y2 y3 y4 y5 y6))
  | 0 => ⟨fun _ _ _ _ _ _ _ _ _ r h => by simp [seedcornref20_Takes.j0] at h, fun _ _ _ _ _ _ _ _ _ r h => by simp [seedcornref20_Takes.j1] at h, fun _ _ _ _ _ _ _ _ _ r h => by simp [seedcornref20_Takes.j2] at h, fun _ _ _ _ _ _ _ r h => by simp [seedcornref20_Takes.j3] at h⟩
  | k + 1 => by
    obtain ⟨ih0, ih1, ih2, ih3⟩ := seedcornref20_Takes.mono_l k
    refine ⟨?_, ?_, ?_, ?_⟩
    · intro y0 y1 y2 y3 y4 y5 y6 y7 y8
      unfold seedcornref20_Takes.j0
      repeat' first
      | (with_reducible exact ih0 _ _ _ _ _ _ _ _ _)
      | (with_reducible exact ih1 _ _ _ _ _ _ _ _ _)
      | (with_reducible exact ih2 _ _ _ _ _ _ _ _ _)
      | (with_reducible exact ih3 _ _ _ _ _ _ _)
      | (with_reducible exact LeO.refl _)
      | (with_reducible exact LeO.none _)
      | (with_reducible refine LeO.ite ?_ ?_)
      | (with_reducible refine LeO.bind ?_ (fun _ => ?_))
      | exact ih0 _ _ _ _ _ _ _ _ _
      | exact ih1 _ _ _ _ _ _ _ _ _
      | exact ih2 _ _ _ _ _ _ _ _ _
      | exact ih3 _ _ _ _ _ _ _
      | exact LeO.none _
      | refine LeO.ite ?_ ?_
      | refine LeO.bind ?_ (fun _ => ?_)
    · intro y0 y1 y2 y3 y4 y5 y6 y7 y8
      unfold seedcornref20_Takes.j1
      repeat' first
      | (with_reducible exact ih0 _ _ _ _ _ _ _ _ _)
      | (with_reducible exact ih1 _ _ _ _ _ _ _ _ _)
      | (with_reducible exact ih2 _ _ _ _ _ _ _ _ _)
      | (with_reducible exact ih3 _ _ _ _ _ _ _)
      | (with_reducible exact LeO.refl _)
      | (with_reducible exact LeO.none _)
      | (with_reducible refine LeO.ite ?_ ?_)
      | (with_reducible refine LeO.bind ?_ (fun _ => ?_))
      | exact ih0 _ _ _ _ _ _ _ _ _
      | exact ih1 _ _ _ _ _ _ _ _ _
      | exact ih2 _ _ _ _ _ _ _ _ _
      | exact ih3 _ _ _ _ _ _ _
      | exact LeO.none _
      | refine LeO.ite ?_ ?_
      | refine LeO.bind ?_ (fun _ => ?_)
    · intro y0 y1 y2 y3 y4 y5 y6 y7 y8
      unfold seedcornref20_Takes.j2
      repeat' first
      | (with_reducible exact ih0 _ _ _ _ _ _ _ _ _)
      | (with_reducible exact ih1 _ _ _ _ _ _ _ _ _)
      | (with_reducible exact ih2 _ _ _ _ _ _ _ _ _)
      | (with_reducible exact ih3 _ _ _ _ _ _ _)
      | (with_reducible exact LeO.refl _)
      | (with_reducible exact LeO.none _)
      | (with_reducible refine LeO.ite ?_ ?_)
      | (with_reducible refine LeO.bind ?_ (fun _ => ?_))
      | exact ih0 _ _ _ _ _ _ _ _ _
      | exact ih1 _ _ _ _ _ _ _ _ _
      | exact ih2 _ _ _ _ _ _ _ _ _
      | exact ih3 _ _ _ _ _ _ _
      | exact LeO.none _
      | refine LeO.ite ?_ ?_
      | refine LeO.bind ?_ (fun _ => ?_)
    · intro y0 y1 y2 y3 y4 y5 y6
      unfold seedcornref20_Takes.j3
      repeat' first
      | (with_reducible exact ih0 _ _ _ _ _ _ _ _ _)
      | (with_reducible exact ih1 _ _ _ _ _ _ _ _ _)
      | (with_reducible exact ih2 _ _ _ _ _ _ _ _ _)
      | (with_reducible exact ih3 _ _ _ _ _ _ _)
      | (with_reducible exact LeO.refl _)
      | (with_reducible exact LeO.none _)
      | (with_reducible refine LeO.ite ?_ ?_)
      | (with_reducible refine LeO.bind ?_ (fun _ => ?_))
      | exact ih0 _ _ _ _ _ _ _ _ _
      | exact ih1 _ _ _ _ _ _ _ _ _
      | exact ih2 _ _ _ _ _ _ _ _ _
      | exact ih3 _ _ _ _ _ _ _
      | exact LeO.none _
      | refine LeO.ite ?_ ?_
      | refine LeO.bind ?_ (fun _ => ?_)
theorem seedcornref20_Takes.mono : ∀ a0 a1 a2 a3 a4 a5 a6 k, LeO (seedcornref20_Takes.f k a0 a1 a2 a3 a4 a5 a6) (seedcornref20_Takes.f (k + 1) a0 a1 a2 a3 a4 a5 a6) := by
  intro a0 a1 a2 a3 a4 a5 a6 k
  obtain ⟨ih0, ih1, ih2, ih3⟩ := seedcornref20_Takes.mono_l k
  unfold seedcornref20_Takes.f
  repeat' first
      | (with_reducible exact ih0 _ _ _ _ _ _ _ _ _)
      | (with_reducible exact ih1 _ _ _ _ _ _ _ _ _)
      | (with_reducible exact ih2 _ _ _ _ _ _ _ _ _)
      | (with_reducible exact ih3 _ _ _ _ _ _ _)
      | (with_reducible exact LeO.refl _)
      | (with_reducible exact LeO.none _)
      | (with_reducible refine LeO.ite ?_ ?_)
      | (with_reducible refine LeO.bind ?_ (fun _ => ?_))
      | exact ih0 _ _ _ _ _ _ _ _ _
      | exact ih1 _ _ _ _ _ _ _ _ _
      | exact ih2 _ _ _ _ _ _ _ _ _
      | exact ih3 _ _ _ _ _ _ _
      | exact LeO.none _
      | refine LeO.ite ?_ ?_
      | refine LeO.bind ?_ (fun _ => ?_)
set_option maxHeartbeats 8000000 in
set_option maxRecDepth 100000 in
theorem seedcornref20_Takes.calls (k : Nat) (a0_0 : Int) (A0_1 : Option Addr) (c0_1 : Nat) (l0_1 : List (S28)) (a1 : Int) (a2_0 : Int) (a2_1 : Int) (a2_2 : Int) (a2_3 : Int) (r1 : Int) (r2 : Int) (r3 : Bool) (w : World) (hr0_1 : Kd.C k28 w A0_1 l0_1.length l0_1) (hc0_1 : l0_1.length ≤ c0_1) (h : seedcornref20_Takes.f k a0_0 l0_1 a1 a2_0 a2_1 a2_2 a2_3 = some (r1, r2, r3)) :
    Calls Try.prog 41 #[.agg #[.int .i64 a0_0, .slice A0_1 l0_1.length c0_1], .int .i64 a1, .agg #[.int .i64 a2_0, .int .i64 a2_1, .int .i64 a2_2, .int .u32 a2_3]] w fun e w' => e = .returned (.tuple #[.int .i64 r1, .int .i64 r2, .bool r3]) ∧ Below w.heap.size w w' := by
  have hu31 := Try.underlying31
  have hu25 := Try.underlying25
  have HR0_1 := Aside0.mk hr0_1
  have HC0_1 := Aside0.mk hc0_1
  clear hr0_1 hc0_1
  have HB := Aside0.mk (Below.refl w.heap.size w)
  have H : (if a2_0 = 1 then (seedcornref20_Takes.j0 k a1 a2_0 (a2_0 == 1) a0_0 l0_1 a2_0 a2_1 a2_2 a2_3) else (if a2_0 = 2 then (seedcornref20_Takes.j0 k a1 a2_0 (a2_0 == 2) a0_0 l0_1 a2_0 a2_1 a2_2 a2_3) else (seedcornref20_Takes.j0 k a1 a2_0 (a2_0 == 12) a0_0 l0_1 a2_0 a2_1 a2_2 a2_3))) = some (r1, r2, r3) := h
  clear h
  have HC4 := Aside0.mk H
  clear H
  go_enter Try.func41, Try.ntmps41
  go_upto_if 11 with (first | ((with_reducible refine gate_dst (N := 3) rfl ?_); (try (refine gate_guard (by rfl) ?_; dsimp only)); refine box_event ?hg (N := 3) ?hd (cs := #[.int .i64 a0_0, .slice A0_1 l0_1.length c0_1]) (t := 31) ?hr ?_; (case hd => rfl); (case hg => rfl); (case hr => first | (go_simp; done) | (go_simp; rfl)); intro gb171 hg w5 hbox hb; have n0_ := Aside0.mk (below_step (by repeat (first | (with_reducible first | exact HB.out | apply below_alloc | apply pw_below_drewN | apply below_drew1) | exact HB.out)) hb); have n1_ := Aside0.mk (hbox); have n2_ := Aside0.mk ((by rw [hg]; exact (below_size (by repeat (first | (with_reducible first | exact HB.out | apply below_alloc | apply pw_below_drewN | apply below_drew1) | exact HB.out))) : w.heap.size ≤ gb171)); have n3_ := Aside0.mk ((by rw [hg]; exact (below_size (by repeat (first | (with_reducible first | exact HB.out | apply below_alloc | apply pw_below_drewN | apply below_drew1) | exact HB.out))) : w.heap.size ≤ gb171)); clear HB; have HB := n0_; have BK171 := n1_; have GW171 := n2_; have GE171 := n3_; clear n0_ n1_ n2_ n3_; clear hb hbox hg) | ((with_reducible refine gate_dst (N := 5) rfl ?_); (try (refine gate_guard (by rfl) ?_; dsimp only)); refine box_event ?hg (N := 5) ?hd (cs := #[.int .i64 a2_0, .int .i64 a2_1, .int .i64 a2_2, .int .u32 a2_3]) (t := 25) ?hr ?_; (case hd => rfl); (case hg => rfl); (case hr => first | (go_simp; done) | (go_simp; rfl)); intro gb172 hg w6 hbox hb; have n0_ := Aside0.mk (blk_below (g := gb171) (o := .cells #[.int .i64 a0_0, .slice A0_1 l0_1.length c0_1] 31 (0, 0)) (by (with_reducible repeat (first | refine blk_drewN ?_ _ | refine blk_drew ?_ | refine blk_alloc ?_ _)); exact BK171.out) hb); have n1_ := Aside0.mk (below_step (by repeat (first | (with_reducible first | exact HB.out | apply below_alloc | apply pw_below_drewN | apply below_drew1 | refine below_set ?_ GE171.out) | exact HB.out)) hb); have n2_ := Aside0.mk (hbox); have n3_ := Aside0.mk ((by rw [hg]; exact (below_size (by repeat (first | (with_reducible first | exact HB.out | apply below_alloc | apply pw_below_drewN | apply below_drew1 | refine below_set ?_ GE171.out) | exact HB.out))) : w.heap.size ≤ gb172)); have n4_ := Aside0.mk ((by rw [hg]; exact (below_size (by repeat (first | (with_reducible first | exact HB.out | apply below_alloc | apply pw_below_drewN | apply below_drew1 | refine below_set ?_ GE171.out) | exact HB.out))) : w.heap.size ≤ gb172)); have n5_ := Aside0.mk ((by rw [hg]; exact Nat.ne_of_lt (blk_lt (g := gb171) (o := .cells #[.int .i64 a0_0, .slice A0_1 l0_1.length c0_1] 31 (0, 0)) (by (with_reducible repeat (first | refine blk_drewN ?_ _ | refine blk_drew ?_ | refine blk_alloc ?_ _)); exact BK171.out)) : gb171 ≠ gb172)); have n6_ := Aside0.mk ((by rw [hg]; exact Nat.ne_of_gt (blk_lt (g := gb171) (o := .cells #[.int .i64 a0_0, .slice A0_1 l0_1.length c0_1] 31 (0, 0)) (by (with_reducible repeat (first | refine blk_drewN ?_ _ | refine blk_drew ?_ | refine blk_alloc ?_ _)); exact BK171.out)) : gb172 ≠ gb171)); clear BK171; clear HB; have BK171 := n0_; have HB := n1_; have BK172 := n2_; have GW172 := n3_; have GE172 := n4_; have NB171_172 := n5_; have NB172_171 := n6_; clear n0_ n1_ n2_ n3_ n4_ n5_ n6_; clear hb hbox hg; have hnb7 := NB172_171.out; have hnc7 := NB171_172.out; have hcz8_0 : w6.cell? ⟨gb172, 0, none⟩ = some (.int .i64 a2_0) := (blk_cell BK172.out 0).trans rfl; have hcz8_1 : w6.cell? ⟨gb172, 1, none⟩ = some (.int .i64 a2_1) := (blk_cell BK172.out 1).trans rfl; have hcz8_2 : w6.cell? ⟨gb172, 2, none⟩ = some (.int .i64 a2_2) := (blk_cell BK172.out 2).trans rfl; have hcz8_3 : w6.cell? ⟨gb172, 3, none⟩ = some (.int .u32 a2_3) := (blk_cell BK172.out 3).trans rfl; have hfz8_0 := blk_frozen BK172.out 0; have hfz8_1 := blk_frozen BK172.out 1; have hfz8_2 := blk_frozen BK172.out 2; have hfz8_3 := blk_frozen BK172.out 3))
  (try simp only [Act.put, List.setIfInBounds_toArray, List.set_cons_zero, List.set_cons_succ])
  go_cut [11] (fun v11 wc => ∃ (kq : Nat) (x11_3 : Bool), v11 = .bool x11_3 ∧ Aside0 (seedcornref20_Takes.j0 kq a1 a2_0 x11_3 a0_0 l0_1 a2_0 a2_1 a2_2 a2_3 = some (r1, r2, r3)) ∧ Aside0 (kq ≤ k) ∧ Aside0 (wc.heap[gb171]? = some (.cells #[.int .i64 a0_0, (.slice A0_1 l0_1.length c0_1)] 31 (0, 0))) ∧ Aside0 (wc.heap[gb172]? = some (.cells #[.int .i64 a2_0, .int .i64 a2_1, .int .i64 a2_2, .int .u32 a2_3] 25 (0, 0))) ∧ Aside0 (Below w.heap.size w wc))
  case first =>
    have H := HC4.out
    clear HC4
    by_cases c9 : a2_0 = 1
    · rw [if_pos c9] at H
      have c9b0 : (a2_0 == 1) = true := beq_iff_eq.mpr c9
      have c9b1 : (a2_0 != 1) = false := bne_eq_false_iff_eq.mpr c9
      clear c9
      (first | rw [c9b0] | (simp only [i64_w, i32_w]; rw [c9b0]) | skip)
      have H' := Aside0.mk H
      clear H
      go_wp2
      go_meet
      case rel => exact ⟨_, ((a2_0 == 1)), (by first | rfl | (simp; done) | (simp [*]; done)), H', ⟨by first | omega | exact Nat.le_refl _⟩, ⟨by (with_reducible repeat (first | refine blk_drewN ?_ _ | refine blk_drew ?_ | refine blk_alloc ?_ _)); exact BK171.out⟩, ⟨by (with_reducible repeat (first | refine blk_drewN ?_ _ | refine blk_drew ?_ | refine blk_alloc ?_ _)); exact BK172.out⟩, ⟨by repeat (first | (with_reducible first | exact HB.out | apply below_alloc | apply pw_below_drewN | apply below_drew1 | refine below_set ?_ GE171.out | refine below_set ?_ GE172.out) | exact HB.out)⟩⟩
    · rw [if_neg c9] at H
      have c9b0 : (a2_0 == 1) = false := beq_eq_false_iff_ne.mpr c9
      have c9b1 : (a2_0 != 1) = true := bne_iff_ne.mpr c9
      (first | rw [c9b0] | (simp only [i64_w, i32_w]; rw [c9b0]) | skip)
      by_cases c10 : a2_0 = 2
      · rw [if_pos c10] at H
        have c10b0 : (a2_0 == 2) = true := beq_iff_eq.mpr c10
        have c10b1 : (a2_0 != 2) = false := bne_eq_false_iff_eq.mpr c10
        clear c10
        have H' := Aside0.mk H
        clear H
        go_wp2
        go_meet
        case rel => exact ⟨_, ((a2_0 == 2)), (by first | rfl | (simp; done) | (simp [*]; done)), H', ⟨by first | omega | exact Nat.le_refl _⟩, ⟨by (with_reducible repeat (first | refine blk_drewN ?_ _ | refine blk_drew ?_ | refine blk_alloc ?_ _)); exact BK171.out⟩, ⟨by (with_reducible repeat (first | refine blk_drewN ?_ _ | refine blk_drew ?_ | refine blk_alloc ?_ _)); exact BK172.out⟩, ⟨by repeat (first | (with_reducible first | exact HB.out | apply below_alloc | apply pw_below_drewN | apply below_drew1 | refine below_set ?_ GE171.out | refine below_set ?_ GE172.out) | exact HB.out)⟩⟩
      · rw [if_neg c10] at H
        have c10b0 : (a2_0 == 2) = false := beq_eq_false_iff_ne.mpr c10
        have c10b1 : (a2_0 != 2) = true := bne_iff_ne.mpr c10
        have H' := Aside0.mk H
        clear H
        go_wp2
        go_meet
        case rel => exact ⟨_, ((a2_0 == 12)), (by first | rfl | (simp; done) | (simp [*]; done)), H', ⟨by first | omega | exact Nat.le_refl _⟩, ⟨by (with_reducible repeat (first | refine blk_drewN ?_ _ | refine blk_drew ?_ | refine blk_alloc ?_ _)); exact BK171.out⟩, ⟨by (with_reducible repeat (first | refine blk_drewN ?_ _ | refine blk_drew ?_ | refine blk_alloc ?_ _)); exact BK172.out⟩, ⟨by repeat (first | (with_reducible first | exact HB.out | apply below_alloc | apply pw_below_drewN | apply below_drew1 | refine below_set ?_ GE171.out | refine below_set ?_ GE172.out) | exact HB.out)⟩⟩
  case rest =>
    clear HC4
    try clear c1
    try clear p2
    try clear c4
    try clear c7
    try clear c9
    try clear c9b0
    try clear c9b1
    try clear c10
    try clear c10b0
    try clear c10b1
    try clear hcz8_0
    try clear hcz8_1
    try clear hcz8_2
    try clear hcz8_3
    try clear hfz8_0
    try clear hfz8_1
    try clear hfz8_2
    try clear hfz8_3
    obtain ⟨kq, x11_3, rfl, HA, HJ3, BK171, BK172, HB⟩ := hcut
    cases kq with
    | zero => exact absurd HA.out (by simp [seedcornref20_Takes.j0])
    | succ kj3 =>
      have H := HA.out
      clear HA
      simp only [seedcornref20_Takes.j0] at H
      by_cases c11 : x11_3 = true
      · subst c11
        have H1 : (some (0, 1, true)) = some (r1, r2, r3) := by rw [if_pos rfl] at H; exact H
        clear H
        have H := H1
        clear H1
        simp only [Option.some.injEq, Prod.mk.injEq] at H
        obtain ⟨rfl, rfl, rfl⟩ := H
        go_wp2
        go_ret3
        exact ⟨by first | rfl | (simp [errW_none, errW_some] <;> rfl) | (simp [*, errW_none, errW_some] <;> rfl), by repeat (first | (with_reducible first | exact HB.out | apply below_alloc | apply pw_below_drewN | apply below_drew1 | refine below_set ?_ GE171.out | refine below_set ?_ GE172.out) | exact HB.out)⟩
      · replace c11 := Bool.eq_false_iff.mpr c11
        subst c11
        have H1 : (if a2_0 = 3 then (seedcornref20_Takes.j1 kj3 a1 a2_0 (a2_0 == 3) a0_0 l0_1 a2_0 a2_1 a2_2 a2_3) else (if a2_0 = 9 then (seedcornref20_Takes.j1 kj3 a1 a2_0 (a2_0 == 9) a0_0 l0_1 a2_0 a2_1 a2_2 a2_3) else (seedcornref20_Takes.j1 kj3 a1 a2_0 (a2_0 == 13) a0_0 l0_1 a2_0 a2_1 a2_2 a2_3))) = some (r1, r2, r3) := by rw [if_neg (show ¬ (false = true) by decide)] at H; exact H
        clear H
        have H := H1
        clear H1
        have HC12 := Aside0.mk H
        clear H
        go_upto_if 15 with (fail)
        go_cut [15] (fun v15 wc => ∃ (kq : Nat) (x15_11 : Bool), v15 = .bool x15_11 ∧ Aside0 (seedcornref20_Takes.j1 kq a1 a2_0 x15_11 a0_0 l0_1 a2_0 a2_1 a2_2 a2_3 = some (r1, r2, r3)) ∧ Aside0 (kq ≤ kj3) ∧ Aside0 (wc.heap[gb171]? = some (.cells #[.int .i64 a0_0, (.slice A0_1 l0_1.length c0_1)] 31 (0, 0))) ∧ Aside0 (wc.heap[gb172]? = some (.cells #[.int .i64 a2_0, .int .i64 a2_1, .int .i64 a2_2, .int .u32 a2_3] 25 (0, 0))) ∧ Aside0 (Below w.heap.size w wc))
        case first =>
          have H := HC12.out
          clear HC12
          by_cases c13 : a2_0 = 3
          · rw [if_pos c13] at H
            have c13b0 : (a2_0 == 3) = true := beq_iff_eq.mpr c13
            have c13b1 : (a2_0 != 3) = false := bne_eq_false_iff_eq.mpr c13
            clear c13
            (first | rw [c13b0] | (simp only [i64_w, i32_w]; rw [c13b0]) | skip)
            have H' := Aside0.mk H
            clear H
            go_wp2
            go_meet
            case rel => exact ⟨_, ((a2_0 == 3)), (by first | rfl | (simp; done) | (simp [*]; done)), H', ⟨by have := HJ3.out; first | omega | exact Nat.le_refl _⟩, ⟨by (with_reducible repeat (first | refine blk_drewN ?_ _ | refine blk_drew ?_ | refine blk_alloc ?_ _)); exact BK171.out⟩, ⟨by (with_reducible repeat (first | refine blk_drewN ?_ _ | refine blk_drew ?_ | refine blk_alloc ?_ _)); exact BK172.out⟩, ⟨by repeat (first | (with_reducible first | exact HB.out | apply below_alloc | apply pw_below_drewN | apply below_drew1 | refine below_set ?_ GE171.out | refine below_set ?_ GE172.out) | exact HB.out)⟩⟩
          · rw [if_neg c13] at H
            have c13b0 : (a2_0 == 3) = false := beq_eq_false_iff_ne.mpr c13
            have c13b1 : (a2_0 != 3) = true := bne_iff_ne.mpr c13
            (first | rw [c13b0] | (simp only [i64_w, i32_w]; rw [c13b0]) | skip)
            by_cases c14 : a2_0 = 9
            · rw [if_pos c14] at H
              have c14b0 : (a2_0 == 9) = true := beq_iff_eq.mpr c14
              have c14b1 : (a2_0 != 9) = false := bne_eq_false_iff_eq.mpr c14
              clear c14
              have H' := Aside0.mk H
              clear H
              go_wp2
              go_meet
              case rel => exact ⟨_, ((a2_0 == 9)), (by first | rfl | (simp; done) | (simp [*]; done)), H', ⟨by have := HJ3.out; first | omega | exact Nat.le_refl _⟩, ⟨by (with_reducible repeat (first | refine blk_drewN ?_ _ | refine blk_drew ?_ | refine blk_alloc ?_ _)); exact BK171.out⟩, ⟨by (with_reducible repeat (first | refine blk_drewN ?_ _ | refine blk_drew ?_ | refine blk_alloc ?_ _)); exact BK172.out⟩, ⟨by repeat (first | (with_reducible first | exact HB.out | apply below_alloc | apply pw_below_drewN | apply below_drew1 | refine below_set ?_ GE171.out | refine below_set ?_ GE172.out) | exact HB.out)⟩⟩
            · rw [if_neg c14] at H
              have c14b0 : (a2_0 == 9) = false := beq_eq_false_iff_ne.mpr c14
              have c14b1 : (a2_0 != 9) = true := bne_iff_ne.mpr c14
              have H' := Aside0.mk H
              clear H
              go_wp2
              go_meet
              case rel => exact ⟨_, ((a2_0 == 13)), (by first | rfl | (simp; done) | (simp [*]; done)), H', ⟨by have := HJ3.out; first | omega | exact Nat.le_refl _⟩, ⟨by (with_reducible repeat (first | refine blk_drewN ?_ _ | refine blk_drew ?_ | refine blk_alloc ?_ _)); exact BK171.out⟩, ⟨by (with_reducible repeat (first | refine blk_drewN ?_ _ | refine blk_drew ?_ | refine blk_alloc ?_ _)); exact BK172.out⟩, ⟨by repeat (first | (with_reducible first | exact HB.out | apply below_alloc | apply pw_below_drewN | apply below_drew1 | refine below_set ?_ GE171.out | refine below_set ?_ GE172.out) | exact HB.out)⟩⟩
        case rest =>
          clear HC12
          try clear c1
          try clear p2
          try clear c4
          try clear c7
          try clear c9
          try clear c9b0
          try clear c9b1
          try clear c10
          try clear c10b0
          try clear c10b1
          try clear c11
          try clear c13
          try clear c13b0
          try clear c13b1
          try clear c14
          try clear c14b0
          try clear c14b1
          try clear hcz8_0
          try clear hcz8_1
          try clear hcz8_2
          try clear hcz8_3
          try clear hfz8_0
          try clear hfz8_1
          try clear hfz8_2
          try clear hfz8_3
          try clear p2
          obtain ⟨kq, x15_11, rfl, HA, HJ11, BK171, BK172, HB⟩ := hcut
          cases kq with
          | zero => exact absurd HA.out (by simp [seedcornref20_Takes.j1])
          | succ kj11 =>
            have H := HA.out
            clear HA
            simp only [seedcornref20_Takes.j1] at H
            by_cases c15 : x15_11 = true
            · subst c15
              have H1 : (some (1, 0, true)) = some (r1, r2, r3) := by rw [if_pos rfl] at H; exact H
              clear H
              have H := H1
              clear H1
              simp only [Option.some.injEq, Prod.mk.injEq] at H
              obtain ⟨rfl, rfl, rfl⟩ := H
              go_wp2
              go_ret3
              exact ⟨by first | rfl | (simp [errW_none, errW_some] <;> rfl) | (simp [*, errW_none, errW_some] <;> rfl), by repeat (first | (with_reducible first | exact HB.out | apply below_alloc | apply pw_below_drewN | apply below_drew1 | refine below_set ?_ GE171.out | refine below_set ?_ GE172.out) | exact HB.out)⟩
            · replace c15 := Bool.eq_false_iff.mpr c15
              subst c15
              have H1 : (if a2_0 = 4 then (seedcornref20_Takes.j2 kj11 a1 a2_0 (a2_0 == 4) a0_0 l0_1 a2_0 a2_1 a2_2 a2_3) else (seedcornref20_Takes.j2 kj11 a1 a2_0 (a2_0 == 7) a0_0 l0_1 a2_0 a2_1 a2_2 a2_3)) = some (r1, r2, r3) := by rw [if_neg (show ¬ (false = true) by decide)] at H; exact H
              clear H
              have H := H1
              clear H1
              have HC16 := Aside0.mk H
              clear H
              go_upto_if 19 with (fail)
              go_cut [19] (fun v19 wc => ∃ (kq : Nat) (x19_15 : Bool), v19 = .bool x19_15 ∧ Aside0 (seedcornref20_Takes.j2 kq a1 a2_0 x19_15 a0_0 l0_1 a2_0 a2_1 a2_2 a2_3 = some (r1, r2, r3)) ∧ Aside0 (kq ≤ kj11) ∧ Aside0 (wc.heap[gb171]? = some (.cells #[.int .i64 a0_0, (.slice A0_1 l0_1.length c0_1)] 31 (0, 0))) ∧ Aside0 (wc.heap[gb172]? = some (.cells #[.int .i64 a2_0, .int .i64 a2_1, .int .i64 a2_2, .int .u32 a2_3] 25 (0, 0))) ∧ Aside0 (Below w.heap.size w wc))
              case first =>
                have H := HC16.out
                clear HC16
                by_cases c17 : a2_0 = 4
                · rw [if_pos c17] at H
                  have c17b0 : (a2_0 == 4) = true := beq_iff_eq.mpr c17
                  have c17b1 : (a2_0 != 4) = false := bne_eq_false_iff_eq.mpr c17
                  clear c17
                  (first | rw [c17b0] | (simp only [i64_w, i32_w]; rw [c17b0]) | skip)
                  have H' := Aside0.mk H
                  clear H
                  go_wp2
                  go_meet
                  case rel => exact ⟨_, ((a2_0 == 4)), (by first | rfl | (simp; done) | (simp [*]; done)), H', ⟨by have := HJ3.out; have := HJ11.out; first | omega | exact Nat.le_refl _⟩, ⟨by (with_reducible repeat (first | refine blk_drewN ?_ _ | refine blk_drew ?_ | refine blk_alloc ?_ _)); exact BK171.out⟩, ⟨by (with_reducible repeat (first | refine blk_drewN ?_ _ | refine blk_drew ?_ | refine blk_alloc ?_ _)); exact BK172.out⟩, ⟨by repeat (first | (with_reducible first | exact HB.out | apply below_alloc | apply pw_below_drewN | apply below_drew1 | refine below_set ?_ GE171.out | refine below_set ?_ GE172.out) | exact HB.out)⟩⟩
                · rw [if_neg c17] at H
                  have c17b0 : (a2_0 == 4) = false := beq_eq_false_iff_ne.mpr c17
                  have c17b1 : (a2_0 != 4) = true := bne_iff_ne.mpr c17
                  (first | rw [c17b0] | (simp only [i64_w, i32_w]; rw [c17b0]) | skip)
                  have H' := Aside0.mk H
                  clear H
                  go_wp2
                  go_meet
                  case rel => exact ⟨_, ((a2_0 == 7)), (by first | rfl | (simp; done) | (simp [*]; done)), H', ⟨by have := HJ3.out; have := HJ11.out; first | omega | exact Nat.le_refl _⟩, ⟨by (with_reducible repeat (first | refine blk_drewN ?_ _ | refine blk_drew ?_ | refine blk_alloc ?_ _)); exact BK171.out⟩, ⟨by (with_reducible repeat (first | refine blk_drewN ?_ _ | refine blk_drew ?_ | refine blk_alloc ?_ _)); exact BK172.out⟩, ⟨by repeat (first | (with_reducible first | exact HB.out | apply below_alloc | apply pw_below_drewN | apply below_drew1 | refine below_set ?_ GE171.out | refine below_set ?_ GE172.out) | exact HB.out)⟩⟩
              case rest =>
                clear HC16
                try clear c1
                try clear p2
                try clear c4
                try clear c7
                try clear c9
                try clear c9b0
                try clear c9b1
                try clear c10
                try clear c10b0
                try clear c10b1
                try clear c11
                try clear c13
                try clear c13b0
                try clear c13b1
                try clear c14
                try clear c14b0
                try clear c14b1
                try clear c15
                try clear c17
                try clear c17b0
                try clear c17b1
                try clear hcz8_0
                try clear hcz8_1
                try clear hcz8_2
                try clear hcz8_3
                try clear hfz8_0
                try clear hfz8_1
                try clear hfz8_2
                try clear hfz8_3
                try clear p2
                obtain ⟨kq, x19_15, rfl, HA, HJ15, BK171, BK172, HB⟩ := hcut
                cases kq with
                | zero => exact absurd HA.out (by simp [seedcornref20_Takes.j2])
                | succ kj15 =>
                  have H := HA.out
                  clear HA
                  simp only [seedcornref20_Takes.j2] at H
                  by_cases c18 : x19_15 = true
                  · subst c18
                    have H1 : (some (1, 1, true)) = some (r1, r2, r3) := by rw [if_pos rfl] at H; exact H
                    clear H
                    have H := H1
                    clear H1
                    simp only [Option.some.injEq, Prod.mk.injEq] at H
                    obtain ⟨rfl, rfl, rfl⟩ := H
                    go_wp2
                    go_ret3
                    exact ⟨by first | rfl | (simp [errW_none, errW_some] <;> rfl) | (simp [*, errW_none, errW_some] <;> rfl), by repeat (first | (with_reducible first | exact HB.out | apply below_alloc | apply pw_below_drewN | apply below_drew1 | refine below_set ?_ GE171.out | refine below_set ?_ GE172.out) | exact HB.out)⟩
                  · replace c18 := Bool.eq_false_iff.mpr c18
                    subst c18
                    have H1 : (if a2_0 = 5 then (some (2, 0, true)) else (if a2_0 = 6 then (some (2, 1, true)) else (if a2_0 = 8 then (some (0, 0, true)) else (if a2_0 = 10 then (if a2_1 < 0 then (seedcornref20_Takes.j3 kj15 true a0_0 l0_1 a2_0 a2_1 a2_2 a2_3) else (seedcornref20_Takes.j3 kj15 (decide (a2_1 ≥ (l0_1.length : Int))) a0_0 l0_1 a2_0 a2_1 a2_2 a2_3)) else (if a2_0 = 11 then (if 0 ≤ a1 then (if a1 < (l0_1.length : Int) then (if (rd_T28 l0_1 a1).f3 = true then (some (1, 0, true)) else (some (0, 0, true))) else (none)) else (none)) else (some (0, 0, false))))))) = some (r1, r2, r3) := by rw [if_neg (show ¬ (false = true) by decide)] at H; exact H
                    clear H
                    have H := H1
                    clear H1
                    by_cases c19 : a2_0 = 5
                    · rw [if_pos c19] at H
                      have c19b0 : (a2_0 == 5) = true := beq_iff_eq.mpr c19
                      have c19b1 : (a2_0 != 5) = false := bne_eq_false_iff_eq.mpr c19
                      clear c19
                      simp only [Option.some.injEq, Prod.mk.injEq] at H
                      obtain ⟨rfl, rfl, rfl⟩ := H
                      go_wp2
                      go_ret3
                      exact ⟨by first | rfl | (simp [errW_none, errW_some] <;> rfl) | (simp [*, errW_none, errW_some] <;> rfl), by repeat (first | (with_reducible first | exact HB.out | apply below_alloc | apply pw_below_drewN | apply below_drew1 | refine below_set ?_ GE171.out | refine below_set ?_ GE172.out) | exact HB.out)⟩
                    · rw [if_neg c19] at H
                      have c19b0 : (a2_0 == 5) = false := beq_eq_false_iff_ne.mpr c19
                      have c19b1 : (a2_0 != 5) = true := bne_iff_ne.mpr c19
                      by_cases c20 : a2_0 = 6
                      · rw [if_pos c20] at H
                        have c20b0 : (a2_0 == 6) = true := beq_iff_eq.mpr c20
                        have c20b1 : (a2_0 != 6) = false := bne_eq_false_iff_eq.mpr c20
                        clear c20
                        simp only [Option.some.injEq, Prod.mk.injEq] at H
                        obtain ⟨rfl, rfl, rfl⟩ := H
                        go_wp2
                        go_ret3
                        exact ⟨by first | rfl | (simp [errW_none, errW_some] <;> rfl) | (simp [*, errW_none, errW_some] <;> rfl), by repeat (first | (with_reducible first | exact HB.out | apply below_alloc | apply pw_below_drewN | apply below_drew1 | refine below_set ?_ GE171.out | refine below_set ?_ GE172.out) | exact HB.out)⟩
                      · rw [if_neg c20] at H
                        have c20b0 : (a2_0 == 6) = false := beq_eq_false_iff_ne.mpr c20
                        have c20b1 : (a2_0 != 6) = true := bne_iff_ne.mpr c20
                        by_cases c21 : a2_0 = 8
                        · rw [if_pos c21] at H
                          have c21b0 : (a2_0 == 8) = true := beq_iff_eq.mpr c21
                          have c21b1 : (a2_0 != 8) = false := bne_eq_false_iff_eq.mpr c21
                          clear c21
                          simp only [Option.some.injEq, Prod.mk.injEq] at H
                          obtain ⟨rfl, rfl, rfl⟩ := H
                          go_wp2
                          go_ret3
                          exact ⟨by first | rfl | (simp [errW_none, errW_some] <;> rfl) | (simp [*, errW_none, errW_some] <;> rfl), by repeat (first | (with_reducible first | exact HB.out | apply below_alloc | apply pw_below_drewN | apply below_drew1 | refine below_set ?_ GE171.out | refine below_set ?_ GE172.out) | exact HB.out)⟩
                        · rw [if_neg c21] at H
                          have c21b0 : (a2_0 == 8) = false := beq_eq_false_iff_ne.mpr c21
                          have c21b1 : (a2_0 != 8) = true := bne_iff_ne.mpr c21
                          by_cases c22 : a2_0 = 10
                          · rw [if_pos c22] at H
                            have c22b0 : (a2_0 == 10) = true := beq_iff_eq.mpr c22
                            have c22b1 : (a2_0 != 10) = false := bne_eq_false_iff_eq.mpr c22
                            clear c22
                            have HC23 := Aside0.mk H
                            clear H
                            go_upto_region 20 with (fail)
                            go_cut [40] (fun v40 wc => ∃ (kq : Nat) (x40_22 : Bool), v40 = .bool x40_22 ∧ Aside0 (seedcornref20_Takes.j3 kq x40_22 a0_0 l0_1 a2_0 a2_1 a2_2 a2_3 = some (r1, r2, r3)) ∧ Aside0 (kq ≤ kj15) ∧ Aside0 (wc.heap[gb171]? = some (.cells #[.int .i64 a0_0, (.slice A0_1 l0_1.length c0_1)] 31 (0, 0))) ∧ Aside0 (wc.heap[gb172]? = some (.cells #[.int .i64 a2_0, .int .i64 a2_1, .int .i64 a2_2, .int .u32 a2_3] 25 (0, 0))) ∧ Aside0 (Below w.heap.size w wc))
                            case first =>
                              have H := HC23.out
                              clear HC23
                              by_cases c24 : a2_1 < 0
                              · rw [if_pos c24] at H
                                have c24b0 : decide (a2_1 < 0) = true := decide_eq_true c24
                                clear c24
                                (first | rw [c24b0] | (simp only [i64_w, i32_w]; rw [c24b0]) | skip)
                                have H' := Aside0.mk H
                                clear H
                                have hnb25 := NB172_171.out
                                have hnc25 := NB171_172.out
                                have hcz26_0 : wc.cell? ⟨gb172, 0, none⟩ = some (.int .i64 a2_0) := (blk_cell BK172.out 0).trans rfl
                                have hcz26_1 : wc.cell? ⟨gb172, 1, none⟩ = some (.int .i64 a2_1) := (blk_cell BK172.out 1).trans rfl
                                have hcz26_2 : wc.cell? ⟨gb172, 2, none⟩ = some (.int .i64 a2_2) := (blk_cell BK172.out 2).trans rfl
                                have hcz26_3 : wc.cell? ⟨gb172, 3, none⟩ = some (.int .u32 a2_3) := (blk_cell BK172.out 3).trans rfl
                                have hfz26_0 := blk_frozen BK172.out 0
                                have hfz26_1 := blk_frozen BK172.out 1
                                have hfz26_2 := blk_frozen BK172.out 2
                                have hfz26_3 := blk_frozen BK172.out 3
                                go_wp2
                                go_meet
                                case rel => exact ⟨_, (true), (by first | rfl | (simp; done) | (simp [*]; done)), H', ⟨by have := HJ3.out; have := HJ11.out; have := HJ15.out; first | omega | exact Nat.le_refl _⟩, ⟨by (with_reducible repeat (first | refine blk_drewN ?_ _ | refine blk_drew ?_ | refine blk_alloc ?_ _)); exact BK171.out⟩, ⟨by (with_reducible repeat (first | refine blk_drewN ?_ _ | refine blk_drew ?_ | refine blk_alloc ?_ _)); exact BK172.out⟩, ⟨by repeat (first | (with_reducible first | exact HB.out | apply below_alloc | apply pw_below_drewN | apply below_drew1 | refine below_set ?_ GE171.out | refine below_set ?_ GE172.out) | exact HB.out)⟩⟩
                              · rw [if_neg c24] at H
                                have c24b0 : decide (a2_1 < 0) = false := decide_eq_false c24
                                clear c24
                                (first | rw [c24b0] | (simp only [i64_w, i32_w]; rw [c24b0]) | skip)
                                have H' := Aside0.mk H
                                clear H
                                have hnb27 := NB172_171.out
                                have hnc27 := NB171_172.out
                                have hcz28_0 : wc.cell? ⟨gb172, 0, none⟩ = some (.int .i64 a2_0) := (blk_cell BK172.out 0).trans rfl
                                have hcz28_1 : wc.cell? ⟨gb172, 1, none⟩ = some (.int .i64 a2_1) := (blk_cell BK172.out 1).trans rfl
                                have hcz28_2 : wc.cell? ⟨gb172, 2, none⟩ = some (.int .i64 a2_2) := (blk_cell BK172.out 2).trans rfl
                                have hcz28_3 : wc.cell? ⟨gb172, 3, none⟩ = some (.int .u32 a2_3) := (blk_cell BK172.out 3).trans rfl
                                have hfz28_0 := blk_frozen BK172.out 0
                                have hfz28_1 := blk_frozen BK172.out 1
                                have hfz28_2 := blk_frozen BK172.out 2
                                have hfz28_3 := blk_frozen BK172.out 3
                                have hcz29_0 : wc.cell? ⟨gb171, 0, none⟩ = some (.int .i64 a0_0) := (blk_cell BK171.out 0).trans rfl
                                have hcz29_1 : wc.cell? ⟨gb171, 1, none⟩ = some (.slice A0_1 l0_1.length c0_1) := (blk_cell BK171.out 1).trans rfl
                                have hfz29_0 := blk_frozen BK171.out 0
                                have hfz29_1 := blk_frozen BK171.out 1
                                go_wp2
                                go_meet
                                case rel => exact ⟨_, (decide (a2_1 ≥ (l0_1.length : Int))), (by first | rfl | (simp; done) | (simp [*]; done)), H', ⟨by have := HJ3.out; have := HJ11.out; have := HJ15.out; first | omega | exact Nat.le_refl _⟩, ⟨by (with_reducible repeat (first | refine blk_drewN ?_ _ | refine blk_drew ?_ | refine blk_alloc ?_ _)); exact BK171.out⟩, ⟨by (with_reducible repeat (first | refine blk_drewN ?_ _ | refine blk_drew ?_ | refine blk_alloc ?_ _)); exact BK172.out⟩, ⟨by repeat (first | (with_reducible first | exact HB.out | apply below_alloc | apply pw_below_drewN | apply below_drew1 | refine below_set ?_ GE171.out | refine below_set ?_ GE172.out) | exact HB.out)⟩⟩
                            case rest =>
                              clear HC23
                              try clear c1
                              try clear c2
                              try clear p2
                              try clear c4
                              try clear c7
                              try clear c9
                              try clear c9b0
                              try clear c9b1
                              try clear c10
                              try clear c10b0
                              try clear c10b1
                              try clear c11
                              try clear c13
                              try clear c13b0
                              try clear c13b1
                              try clear c14
                              try clear c14b0
                              try clear c14b1
                              try clear c15
                              try clear c17
                              try clear c17b0
                              try clear c17b1
                              try clear c18
                              try clear c19
                              try clear c19b0
                              try clear c19b1
                              try clear c20
                              try clear c20b0
                              try clear c20b1
                              try clear c21
                              try clear c21b0
                              try clear c21b1
                              try clear c22
                              try clear c22b0
                              try clear c22b1
                              try clear c24
                              try clear c24b0
                              try clear c25
                              try clear c27
                              try clear hcz26_0
                              try clear hcz26_1
                              try clear hcz26_2
                              try clear hcz26_3
                              try clear hcz28_0
                              try clear hcz28_1
                              try clear hcz28_2
                              try clear hcz28_3
                              try clear hcz29_0
                              try clear hcz29_1
                              try clear hcz8_0
                              try clear hcz8_1
                              try clear hcz8_2
                              try clear hcz8_3
                              try clear hfz26_0
                              try clear hfz26_1
                              try clear hfz26_2
                              try clear hfz26_3
                              try clear hfz28_0
                              try clear hfz28_1
                              try clear hfz28_2
                              try clear hfz28_3
                              try clear hfz29_0
                              try clear hfz29_1
                              try clear hfz8_0
                              try clear hfz8_1
                              try clear hfz8_2
                              try clear hfz8_3
                              try clear p2
                              obtain ⟨kq, x40_22, rfl, HA, HJ22, BK171, BK172, HB⟩ := hcut
                              cases kq with
                              | zero => exact absurd HA.out (by simp [seedcornref20_Takes.j3])
                              | succ kj22 =>
                                have H := HA.out
                                clear HA
                                simp only [seedcornref20_Takes.j3] at H
                                by_cases c30 : x40_22 = true
                                · subst c30
                                  have H1 : (some (0, 0, false)) = some (r1, r2, r3) := by rw [if_pos rfl] at H; exact H
                                  clear H
                                  have H := H1
                                  clear H1
                                  simp only [Option.some.injEq, Prod.mk.injEq] at H
                                  obtain ⟨rfl, rfl, rfl⟩ := H
                                  go_wp2
                                  go_ret3
                                  exact ⟨by first | rfl | (simp [errW_none, errW_some] <;> rfl) | (simp [*, errW_none, errW_some] <;> rfl), by repeat (first | (with_reducible first | exact HB.out | apply below_alloc | apply pw_below_drewN | apply below_drew1 | refine below_set ?_ GE171.out | refine below_set ?_ GE172.out) | exact HB.out)⟩
                                · replace c30 := Bool.eq_false_iff.mpr c30
                                  subst c30
                                  have H1 : (if 0 ≤ a2_1 then (if a2_1 < (l0_1.length : Int) then (if (rd_T28 l0_1 a2_1).f3 = true then (some ((rd_T28 l0_1 a2_1).f0, 1, true)) else (some ((rd_T28 l0_1 a2_1).f0, 0, true))) else (none)) else (none)) = some (r1, r2, r3) := by rw [if_neg (show ¬ (false = true) by decide)] at H; exact H
                                  clear H
                                  have H := H1
                                  clear H1
                                  by_cases c31 : 0 ≤ a2_1
                                  · rw [if_pos c31] at H
                                    have c31b0 : decide (0 ≤ a2_1) = true := decide_eq_true c31
                                    clear c31
                                    by_cases c32 : a2_1 < (l0_1.length : Int)
                                    · rw [if_pos c32] at H
                                      have c32b0 : decide (a2_1 < (l0_1.length : Int)) = true := decide_eq_true c32
                                      clear c32
                                      obtain ⟨bq33, hbq33⟩ : ∃ b_ : Bool, b_ = ((rd_T28 l0_1 a2_1).f3) := ⟨_, rfl⟩
                                      replace H : (if bq33 = true then (some ((rd_T28 l0_1 a2_1).f0, 1, true)) else (some ((rd_T28 l0_1 a2_1).f0, 0, true))) = some (r1, r2, r3) := by rw [← hbq33] at H; exact H
                                      have Nbq33 := Aside0.mk hbq33
                                      clear hbq33
                                      by_cases c34 : bq33 = true
                                      · subst c34
                                        have H1 : (some ((rd_T28 l0_1 a2_1).f0, 1, true)) = some (r1, r2, r3) := by rw [if_pos rfl] at H; exact H
                                        clear H
                                        have H := H1
                                        clear H1
                                        simp only [Option.some.injEq, Prod.mk.injEq] at H
                                        obtain ⟨rfl, rfl, rfl⟩ := H
                                        have hnb35 := NB171_172.out
                                        have hnc35 := NB172_171.out
                                        have hcz36_0 : wc.cell? ⟨gb171, 0, none⟩ = some (.int .i64 a0_0) := (blk_cell BK171.out 0).trans rfl
                                        have hcz36_1 : wc.cell? ⟨gb171, 1, none⟩ = some (.slice A0_1 l0_1.length c0_1) := (blk_cell BK171.out 1).trans rfl
                                        have hfz36_0 := blk_frozen BK171.out 0
                                        have hfz36_1 := blk_frozen BK171.out 1
                                        have hcz37_0 : wc.cell? ⟨gb172, 0, none⟩ = some (.int .i64 a2_0) := (blk_cell BK172.out 0).trans rfl
                                        have hcz37_1 : wc.cell? ⟨gb172, 1, none⟩ = some (.int .i64 a2_1) := (blk_cell BK172.out 1).trans rfl
                                        have hcz37_2 : wc.cell? ⟨gb172, 2, none⟩ = some (.int .i64 a2_2) := (blk_cell BK172.out 2).trans rfl
                                        have hcz37_3 : wc.cell? ⟨gb172, 3, none⟩ = some (.int .u32 a2_3) := (blk_cell BK172.out 3).trans rfl
                                        have hfz37_0 := blk_frozen BK172.out 0
                                        have hfz37_1 := blk_frozen BK172.out 1
                                        have hfz37_2 := blk_frozen BK172.out 2
                                        have hfz37_3 := blk_frozen BK172.out 3
                                        have p173 : 0 ≤ (a2_1 : Int) := of_decide_eq_true (by first | (with_reducible assumption) | assumption)
                                        have q173 : a2_1 < (l0_1.length : Int) := of_decide_eq_true (by first | (with_reducible assumption) | assumption)
                                        obtain ⟨ad173, A173_4, c173_4, e173, hx173_0, hx173_1, hx173_2, hx173_3, hx173_4, hl173_4, hi173_4⟩ := at_T28 HR0_1.out a2_1 p173 q173
                                        (try rw [← Nbq33.out] at hx173_3)
                                        cases e173
                                        replace hx173_0 := (HB.out.cell (World.block_lt_of_cell? w _ hx173_0)).trans hx173_0
                                        replace hx173_1 := (HB.out.cell (World.block_lt_of_cell? w _ hx173_1)).trans hx173_1
                                        replace hx173_2 := (HB.out.cell (World.block_lt_of_cell? w _ hx173_2)).trans hx173_2
                                        replace hx173_3 := (HB.out.cell (World.block_lt_of_cell? w _ hx173_3)).trans hx173_3
                                        replace hx173_4 := (HB.out.cell (World.block_lt_of_cell? w _ hx173_4)).trans hx173_4
                                        have HR173_4 := Aside0.mk hi173_4
                                        have HC173_4 := Aside0.mk hl173_4
                                        clear hi173_4 hl173_4
                                        replace p173 := eq_true p173
                                        replace q173 := eq_true q173
                                        have p174 : 0 ≤ (a2_1 : Int) := of_decide_eq_true (by first | (with_reducible assumption) | assumption)
                                        have q174 : a2_1 < (l0_1.length : Int) := of_decide_eq_true (by first | (with_reducible assumption) | assumption)
                                        obtain ⟨ad174, A174_4, c174_4, e174, hx174_0, hx174_1, hx174_2, hx174_3, hx174_4, hl174_4, hi174_4⟩ := at_T28 HR0_1.out a2_1 p174 q174
                                        (try rw [← Nbq33.out] at hx174_3)
                                        obtain rfl : ad173 = ad174 := (by injection e174)
                                        replace hx174_0 := (HB.out.cell (World.block_lt_of_cell? w _ hx174_0)).trans hx174_0
                                        replace hx174_1 := (HB.out.cell (World.block_lt_of_cell? w _ hx174_1)).trans hx174_1
                                        replace hx174_2 := (HB.out.cell (World.block_lt_of_cell? w _ hx174_2)).trans hx174_2
                                        replace hx174_3 := (HB.out.cell (World.block_lt_of_cell? w _ hx174_3)).trans hx174_3
                                        replace hx174_4 := (HB.out.cell (World.block_lt_of_cell? w _ hx174_4)).trans hx174_4
                                        have HR174_4 := Aside0.mk hi174_4
                                        have HC174_4 := Aside0.mk hl174_4
                                        clear hi174_4 hl174_4
                                        replace p174 := eq_true p174
                                        replace q174 := eq_true q174
                                        have ea_ := Option.some.inj (hx173_4.symm.trans hx174_4)
                                        injection ea_ with ea_ en_ ec_
                                        subst ea_
                                        subst ec_
                                        clear en_
                                        go_wp2
                                        go_ret3
                                        exact ⟨by first | rfl | (simp [errW_none, errW_some] <;> rfl) | (simp [*, errW_none, errW_some] <;> rfl), by repeat (first | (with_reducible first | exact HB.out | apply below_alloc | apply pw_below_drewN | apply below_drew1 | refine below_set ?_ GE171.out | refine below_set ?_ GE172.out) | exact HB.out)⟩
                                      · replace c34 := Bool.eq_false_iff.mpr c34
                                        subst c34
                                        have H1 : (some ((rd_T28 l0_1 a2_1).f0, 0, true)) = some (r1, r2, r3) := by rw [if_neg (show ¬ (false = true) by decide)] at H; exact H
                                        clear H
                                        have H := H1
                                        clear H1
                                        simp only [Option.some.injEq, Prod.mk.injEq] at H
                                        obtain ⟨rfl, rfl, rfl⟩ := H
                                        have hnb38 := NB171_172.out
                                        have hnc38 := NB172_171.out
                                        have hcz39_0 : wc.cell? ⟨gb171, 0, none⟩ = some (.int .i64 a0_0) := (blk_cell BK171.out 0).trans rfl
                                        have hcz39_1 : wc.cell? ⟨gb171, 1, none⟩ = some (.slice A0_1 l0_1.length c0_1) := (blk_cell BK171.out 1).trans rfl
                                        have hfz39_0 := blk_frozen BK171.out 0
                                        have hfz39_1 := blk_frozen BK171.out 1
                                        have hcz40_0 : wc.cell? ⟨gb172, 0, none⟩ = some (.int .i64 a2_0) := (blk_cell BK172.out 0).trans rfl
                                        have hcz40_1 : wc.cell? ⟨gb172, 1, none⟩ = some (.int .i64 a2_1) := (blk_cell BK172.out 1).trans rfl
                                        have hcz40_2 : wc.cell? ⟨gb172, 2, none⟩ = some (.int .i64 a2_2) := (blk_cell BK172.out 2).trans rfl
                                        have hcz40_3 : wc.cell? ⟨gb172, 3, none⟩ = some (.int .u32 a2_3) := (blk_cell BK172.out 3).trans rfl
                                        have hfz40_0 := blk_frozen BK172.out 0
                                        have hfz40_1 := blk_frozen BK172.out 1
                                        have hfz40_2 := blk_frozen BK172.out 2
                                        have hfz40_3 := blk_frozen BK172.out 3
                                        have p173 : 0 ≤ (a2_1 : Int) := of_decide_eq_true (by first | (with_reducible assumption) | assumption)
                                        have q173 : a2_1 < (l0_1.length : Int) := of_decide_eq_true (by first | (with_reducible assumption) | assumption)
                                        obtain ⟨ad173, A173_4, c173_4, e173, hx173_0, hx173_1, hx173_2, hx173_3, hx173_4, hl173_4, hi173_4⟩ := at_T28 HR0_1.out a2_1 p173 q173
                                        (try rw [← Nbq33.out] at hx173_3)
                                        cases e173
                                        replace hx173_0 := (HB.out.cell (World.block_lt_of_cell? w _ hx173_0)).trans hx173_0
                                        replace hx173_1 := (HB.out.cell (World.block_lt_of_cell? w _ hx173_1)).trans hx173_1
                                        replace hx173_2 := (HB.out.cell (World.block_lt_of_cell? w _ hx173_2)).trans hx173_2
                                        replace hx173_3 := (HB.out.cell (World.block_lt_of_cell? w _ hx173_3)).trans hx173_3
                                        replace hx173_4 := (HB.out.cell (World.block_lt_of_cell? w _ hx173_4)).trans hx173_4
                                        have HR173_4 := Aside0.mk hi173_4
                                        have HC173_4 := Aside0.mk hl173_4
                                        clear hi173_4 hl173_4
                                        replace p173 := eq_true p173
                                        replace q173 := eq_true q173
                                        have p175 : 0 ≤ (a2_1 : Int) := of_decide_eq_true (by first | (with_reducible assumption) | assumption)
                                        have q175 : a2_1 < (l0_1.length : Int) := of_decide_eq_true (by first | (with_reducible assumption) | assumption)
                                        obtain ⟨ad175, A175_4, c175_4, e175, hx175_0, hx175_1, hx175_2, hx175_3, hx175_4, hl175_4, hi175_4⟩ := at_T28 HR0_1.out a2_1 p175 q175
                                        (try rw [← Nbq33.out] at hx175_3)
                                        obtain rfl : ad173 = ad175 := (by injection e175)
                                        replace hx175_0 := (HB.out.cell (World.block_lt_of_cell? w _ hx175_0)).trans hx175_0
                                        replace hx175_1 := (HB.out.cell (World.block_lt_of_cell? w _ hx175_1)).trans hx175_1
                                        replace hx175_2 := (HB.out.cell (World.block_lt_of_cell? w _ hx175_2)).trans hx175_2
                                        replace hx175_3 := (HB.out.cell (World.block_lt_of_cell? w _ hx175_3)).trans hx175_3
                                        replace hx175_4 := (HB.out.cell (World.block_lt_of_cell? w _ hx175_4)).trans hx175_4
                                        have HR175_4 := Aside0.mk hi175_4
                                        have HC175_4 := Aside0.mk hl175_4
                                        clear hi175_4 hl175_4
                                        replace p175 := eq_true p175
                                        replace q175 := eq_true q175
                                        have ea_ := Option.some.inj (hx173_4.symm.trans hx175_4)
                                        injection ea_ with ea_ en_ ec_
                                        subst ea_
                                        subst ec_
                                        clear en_
                                        go_wp2
                                        go_ret3
                                        exact ⟨by first | rfl | (simp [errW_none, errW_some] <;> rfl) | (simp [*, errW_none, errW_some] <;> rfl), by repeat (first | (with_reducible first | exact HB.out | apply below_alloc | apply pw_below_drewN | apply below_drew1 | refine below_set ?_ GE171.out | refine below_set ?_ GE172.out) | exact HB.out)⟩
                                    · rw [if_neg c32] at H
                                      exact absurd H (by simp)
                                  · rw [if_neg c31] at H
                                    exact absurd H (by simp)
                          · rw [if_neg c22] at H
                            have c22b0 : (a2_0 == 10) = false := beq_eq_false_iff_ne.mpr c22
                            have c22b1 : (a2_0 != 10) = true := bne_iff_ne.mpr c22
                            by_cases c41 : a2_0 = 11
                            · rw [if_pos c41] at H
                              have c41b0 : (a2_0 == 11) = true := beq_iff_eq.mpr c41
                              have c41b1 : (a2_0 != 11) = false := bne_eq_false_iff_eq.mpr c41
                              clear c41
                              by_cases c42 : 0 ≤ a1
                              · rw [if_pos c42] at H
                                have c42b0 : decide (0 ≤ a1) = true := decide_eq_true c42
                                clear c42
                                by_cases c43 : a1 < (l0_1.length : Int)
                                · rw [if_pos c43] at H
                                  have c43b0 : decide (a1 < (l0_1.length : Int)) = true := decide_eq_true c43
                                  clear c43
                                  obtain ⟨bq44, hbq44⟩ : ∃ b_ : Bool, b_ = ((rd_T28 l0_1 a1).f3) := ⟨_, rfl⟩
                                  replace H : (if bq44 = true then (some (1, 0, true)) else (some (0, 0, true))) = some (r1, r2, r3) := by rw [← hbq44] at H; exact H
                                  have Nbq44 := Aside0.mk hbq44
                                  clear hbq44
                                  by_cases c45 : bq44 = true
                                  · subst c45
                                    have H1 : (some (1, 0, true)) = some (r1, r2, r3) := by rw [if_pos rfl] at H; exact H
                                    clear H
                                    have H := H1
                                    clear H1
                                    simp only [Option.some.injEq, Prod.mk.injEq] at H
                                    obtain ⟨rfl, rfl, rfl⟩ := H
                                    have hnb46 := NB171_172.out
                                    have hnc46 := NB172_171.out
                                    have hcz47_0 : wc.cell? ⟨gb171, 0, none⟩ = some (.int .i64 a0_0) := (blk_cell BK171.out 0).trans rfl
                                    have hcz47_1 : wc.cell? ⟨gb171, 1, none⟩ = some (.slice A0_1 l0_1.length c0_1) := (blk_cell BK171.out 1).trans rfl
                                    have hfz47_0 := blk_frozen BK171.out 0
                                    have hfz47_1 := blk_frozen BK171.out 1
                                    have p176 : 0 ≤ (a1 : Int) := of_decide_eq_true (by first | (with_reducible assumption) | assumption)
                                    have q176 : a1 < (l0_1.length : Int) := of_decide_eq_true (by first | (with_reducible assumption) | assumption)
                                    obtain ⟨ad176, A176_4, c176_4, e176, hx176_0, hx176_1, hx176_2, hx176_3, hx176_4, hl176_4, hi176_4⟩ := at_T28 HR0_1.out a1 p176 q176
                                    (try rw [← Nbq44.out] at hx176_3)
                                    cases e176
                                    replace hx176_0 := (HB.out.cell (World.block_lt_of_cell? w _ hx176_0)).trans hx176_0
                                    replace hx176_1 := (HB.out.cell (World.block_lt_of_cell? w _ hx176_1)).trans hx176_1
                                    replace hx176_2 := (HB.out.cell (World.block_lt_of_cell? w _ hx176_2)).trans hx176_2
                                    replace hx176_3 := (HB.out.cell (World.block_lt_of_cell? w _ hx176_3)).trans hx176_3
                                    replace hx176_4 := (HB.out.cell (World.block_lt_of_cell? w _ hx176_4)).trans hx176_4
                                    have HR176_4 := Aside0.mk hi176_4
                                    have HC176_4 := Aside0.mk hl176_4
                                    clear hi176_4 hl176_4
                                    replace p176 := eq_true p176
                                    replace q176 := eq_true q176
                                    go_wp2
                                    go_ret3
                                    exact ⟨by first | rfl | (simp [errW_none, errW_some] <;> rfl) | (simp [*, errW_none, errW_some] <;> rfl), by repeat (first | (with_reducible first | exact HB.out | apply below_alloc | apply pw_below_drewN | apply below_drew1 | refine below_set ?_ GE171.out | refine below_set ?_ GE172.out) | exact HB.out)⟩
                                  · replace c45 := Bool.eq_false_iff.mpr c45
                                    subst c45
                                    have H1 : (some (0, 0, true)) = some (r1, r2, r3) := by rw [if_neg (show ¬ (false = true) by decide)] at H; exact H
                                    clear H
                                    have H := H1
                                    clear H1
                                    simp only [Option.some.injEq, Prod.mk.injEq] at H
                                    obtain ⟨rfl, rfl, rfl⟩ := H
                                    have hnb48 := NB171_172.out
                                    have hnc48 := NB172_171.out
                                    have hcz49_0 : wc.cell? ⟨gb171, 0, none⟩ = some (.int .i64 a0_0) := (blk_cell BK171.out 0).trans rfl
                                    have hcz49_1 : wc.cell? ⟨gb171, 1, none⟩ = some (.slice A0_1 l0_1.length c0_1) := (blk_cell BK171.out 1).trans rfl
                                    have hfz49_0 := blk_frozen BK171.out 0
                                    have hfz49_1 := blk_frozen BK171.out 1
                                    have p176 : 0 ≤ (a1 : Int) := of_decide_eq_true (by first | (with_reducible assumption) | assumption)
                                    have q176 : a1 < (l0_1.length : Int) := of_decide_eq_true (by first | (with_reducible assumption) | assumption)
                                    obtain ⟨ad176, A176_4, c176_4, e176, hx176_0, hx176_1, hx176_2, hx176_3, hx176_4, hl176_4, hi176_4⟩ := at_T28 HR0_1.out a1 p176 q176
                                    (try rw [← Nbq44.out] at hx176_3)
                                    cases e176
                                    replace hx176_0 := (HB.out.cell (World.block_lt_of_cell? w _ hx176_0)).trans hx176_0
                                    replace hx176_1 := (HB.out.cell (World.block_lt_of_cell? w _ hx176_1)).trans hx176_1
                                    replace hx176_2 := (HB.out.cell (World.block_lt_of_cell? w _ hx176_2)).trans hx176_2
                                    replace hx176_3 := (HB.out.cell (World.block_lt_of_cell? w _ hx176_3)).trans hx176_3
                                    replace hx176_4 := (HB.out.cell (World.block_lt_of_cell? w _ hx176_4)).trans hx176_4
                                    have HR176_4 := Aside0.mk hi176_4
                                    have HC176_4 := Aside0.mk hl176_4
                                    clear hi176_4 hl176_4
                                    replace p176 := eq_true p176
                                    replace q176 := eq_true q176
                                    go_wp2
                                    go_ret3
                                    exact ⟨by first | rfl | (simp [errW_none, errW_some] <;> rfl) | (simp [*, errW_none, errW_some] <;> rfl), by repeat (first | (with_reducible first | exact HB.out | apply below_alloc | apply pw_below_drewN | apply below_drew1 | refine below_set ?_ GE171.out | refine below_set ?_ GE172.out) | exact HB.out)⟩
                                · rw [if_neg c43] at H
                                  exact absurd H (by simp)
                              · rw [if_neg c42] at H
                                exact absurd H (by simp)
                            · rw [if_neg c41] at H
                              have c41b0 : (a2_0 == 11) = false := beq_eq_false_iff_ne.mpr c41
                              have c41b1 : (a2_0 != 11) = true := bne_iff_ne.mpr c41
                              simp only [Option.some.injEq, Prod.mk.injEq] at H
                              obtain ⟨rfl, rfl, rfl⟩ := H
                              go_wp2
                              go_ret3
                              exact ⟨by first | rfl | (simp [errW_none, errW_some] <;> rfl) | (simp [*, errW_none, errW_some] <;> rfl), by repeat (first | (with_reducible first | exact HB.out | apply below_alloc | apply pw_below_drewN | apply below_drew1 | refine below_set ?_ GE171.out | refine below_set ?_ GE172.out) | exact HB.out)⟩

/-! ### seedcornref20_Next: function 42 -/
def seedcornref20_Next.f (a0_0 : Int) (a0_1 : Int) (a0_2 : Int) (a0_3 : Int) (a1 : Int) : Option (List Int) := if a0_0 = 8 then (some (([a0_1] : List Int))) else (if a0_0 = 9 then (some (([wrap64 (a1 + 1), a0_1] : List Int))) else (if a0_0 = 11 then (some ([] : List Int)) else (some (([wrap64 (a1 + 1)] : List Int)))))
set_option maxHeartbeats 8000000 in
set_option maxRecDepth 100000 in
theorem seedcornref20_Next.calls (a0_0 : Int) (a0_1 : Int) (a0_2 : Int) (a0_3 : Int) (a1 : Int) (r : List Int) (w : World) (h : seedcornref20_Next.f a0_0 a0_1 a0_2 a0_3 a1 = some r) :
    Calls Try.prog 42 #[.agg #[.int .i64 a0_0, .int .i64 a0_1, .int .i64 a0_2, .int .u32 a0_3], .int .i64 a1] w fun e w' => ∃ v0_ : Value, e = .returned (v0_) ∧ Kd.R (Kd.int .i64) 3 w' w.heap.size (fun _ => True) v0_ r ∧ Below w.heap.size w w' := by
  have hu25 := Try.underlying25
  have HB := Aside0.mk (Below.refl w.heap.size w)
  have H : (if a0_0 = 8 then (some (([a0_1] : List Int))) else (if a0_0 = 9 then (some (([wrap64 (a1 + 1), a0_1] : List Int))) else (if a0_0 = 11 then (some ([] : List Int)) else (some (([wrap64 (a1 + 1)] : List Int)))))) = some r := h
  clear h
  by_cases c3 : a0_0 = 8
  · rw [if_pos c3] at H
    have c3b0 : (a0_0 == 8) = true := beq_iff_eq.mpr c3
    have c3b1 : (a0_0 != 8) = false := bne_eq_false_iff_eq.mpr c3
    clear c3
    obtain ⟨y178, hy178⟩ : ∃ y_ : List Int, y_ = (([a0_1] : List Int)) := ⟨_, rfl⟩
    replace H : (some y178) = some r := by first | (rw [hy178]; with_reducible exact H) | (have H2_ := (Option.bind_some _ _).symm.trans H; rw [hy178]; with_reducible exact H2_) | (have H2_ := (Option.bind_some _ _).symm.trans H; with_reducible exact H2_) | with_reducible exact H | (rw [hy178]; exact H) | exact H
    have Ny178 := Aside0.mk hy178
    clear hy178
    obtain rfl := Option.some.inj H
    go_enter Try.func42, Try.ntmps42
    go_wp2_with (first | ((with_reducible refine gate_dst (N := 2) rfl ?_); refine box_event ?hg (N := 2) ?hd (cs := #[.int .i64 a0_0, .int .i64 a0_1, .int .i64 a0_2, .int .u32 a0_3]) (t := 25) ?hr ?_; (case hd => rfl); (case hg => rfl); (case hr => first | (go_simp; done) | (go_simp; rfl)); intro gb177 hg w4 hbox hb; have n0_ := Aside0.mk (below_step (by repeat (first | (with_reducible first | exact HB.out | apply below_alloc | apply pw_below_drewN | apply below_drew1) | exact HB.out)) hb); have n1_ := Aside0.mk (hbox); have n2_ := Aside0.mk ((by rw [hg]; exact (below_size (by repeat (first | (with_reducible first | exact HB.out | apply below_alloc | apply pw_below_drewN | apply below_drew1) | exact HB.out))) : w.heap.size ≤ gb177)); have n3_ := Aside0.mk ((by rw [hg]; exact (below_size (by repeat (first | (with_reducible first | exact HB.out | apply below_alloc | apply pw_below_drewN | apply below_drew1) | exact HB.out))) : w.heap.size ≤ gb177)); clear HB; have HB := n0_; have BK177 := n1_; have GW177 := n2_; have GE177 := n3_; clear n0_ n1_ n2_ n3_; clear hb hbox hg; have hcz5_0 : w4.cell? ⟨gb177, 0, none⟩ = some (.int .i64 a0_0) := (blk_cell BK177.out 0).trans rfl; have hcz5_1 : w4.cell? ⟨gb177, 1, none⟩ = some (.int .i64 a0_1) := (blk_cell BK177.out 1).trans rfl; have hcz5_2 : w4.cell? ⟨gb177, 2, none⟩ = some (.int .i64 a0_2) := (blk_cell BK177.out 2).trans rfl; have hcz5_3 : w4.cell? ⟨gb177, 3, none⟩ = some (.int .u32 a0_3) := (blk_cell BK177.out 3).trans rfl; have hfz5_0 := blk_frozen BK177.out 0; have hfz5_1 := blk_frozen BK177.out 1; have hfz5_2 := blk_frozen BK177.out 2; have hfz5_3 := blk_frozen BK177.out 3) | ((with_reducible refine gate_dst (N := 11) rfl ?_); refine Kd.R_lit (Kd.int .i64) _ 3 ?hg (N := 11) ?hd (xs := ([a0_1] : List Int)) (inner := [.int .i64 a0_1]) (ok := fun _ => True) (okp := fun _ => True) ?hr ?hp (fun _ hk => hk) trivial (Below.refl _ _) (Nat.le_refl _) (by simp) ?_; (case hd => rfl); (case hg => rfl); (case hr => first | (go_simp; done) | (go_simp; rfl)); (case hp => exact (Reps.one (show Kd.M (Kd.int .i64) _ _ _ a0_1 [.int .i64 a0_1] from rfl) (Reps.none _ _))); intro v179 w6 ho7 hb hg_ hnew_; clear hg_ hnew_; (first | rw [← Ny178.out] at ho7 | (simp only [Int.reduceToNat] at ho7; rw [← Ny178.out] at ho7)); have n0_ := Aside0.mk (Kd.R_lower ho7 (below_size (by repeat (first | (with_reducible first | exact HB.out | apply below_alloc | apply pw_below_drewN | apply below_drew1 | refine below_set ?_ GE177.out) | exact HB.out)))); have n1_ := Aside0.mk (blk_below (g := gb177) (o := .cells #[.int .i64 a0_0, .int .i64 a0_1, .int .i64 a0_2, .int .u32 a0_3] 25 (0, 0)) (by (with_reducible repeat (first | refine blk_drewN ?_ _ | refine blk_drew ?_ | refine blk_alloc ?_ _)); exact BK177.out) hb); have n2_ := Aside0.mk (below_step (by repeat (first | (with_reducible first | exact HB.out | apply below_alloc | apply pw_below_drewN | apply below_drew1 | refine below_set ?_ GE177.out) | exact HB.out)) hb); clear BK177; clear HB; have HO180 := n0_; have BK177 := n1_; have HB := n2_; clear n0_ n1_ n2_; clear hb ho7))
    go_ret
    exact ⟨_, by first | rfl | (simp [errW_none, errW_some] <;> rfl) | (simp [*, errW_none, errW_some] <;> rfl), by (with_reducible repeat (first | apply Kd.R_alloc | apply Kd.R_drewN | apply Kd.R_drew)); exact HO180.out, by repeat (first | (with_reducible first | exact HB.out | apply below_alloc | apply pw_below_drewN | apply below_drew1 | refine below_set ?_ GE177.out) | exact HB.out)⟩
  · rw [if_neg c3] at H
    have c3b0 : (a0_0 == 8) = false := beq_eq_false_iff_ne.mpr c3
    have c3b1 : (a0_0 != 8) = true := bne_iff_ne.mpr c3
    by_cases c8 : a0_0 = 9
    · rw [if_pos c8] at H
      have c8b0 : (a0_0 == 9) = true := beq_iff_eq.mpr c8
      have c8b1 : (a0_0 != 9) = false := bne_eq_false_iff_eq.mpr c8
      clear c8
      obtain ⟨y181, hy181⟩ : ∃ y_ : List Int, y_ = (([wrap64 (a1 + 1), a0_1] : List Int)) := ⟨_, rfl⟩
      replace H : (some y181) = some r := by first | (rw [hy181]; with_reducible exact H) | (have H2_ := (Option.bind_some _ _).symm.trans H; rw [hy181]; with_reducible exact H2_) | (have H2_ := (Option.bind_some _ _).symm.trans H; with_reducible exact H2_) | with_reducible exact H | (rw [hy181]; exact H) | exact H
      have Ny181 := Aside0.mk hy181
      clear hy181
      obtain rfl := Option.some.inj H
      go_enter Try.func42, Try.ntmps42
      go_wp2_with (first | ((with_reducible refine gate_dst (N := 2) rfl ?_); refine box_event ?hg (N := 2) ?hd (cs := #[.int .i64 a0_0, .int .i64 a0_1, .int .i64 a0_2, .int .u32 a0_3]) (t := 25) ?hr ?_; (case hd => rfl); (case hg => rfl); (case hr => first | (go_simp; done) | (go_simp; rfl)); intro gb177 hg w9 hbox hb; have n0_ := Aside0.mk (below_step (by repeat (first | (with_reducible first | exact HB.out | apply below_alloc | apply pw_below_drewN | apply below_drew1) | exact HB.out)) hb); have n1_ := Aside0.mk (hbox); have n2_ := Aside0.mk ((by rw [hg]; exact (below_size (by repeat (first | (with_reducible first | exact HB.out | apply below_alloc | apply pw_below_drewN | apply below_drew1) | exact HB.out))) : w.heap.size ≤ gb177)); have n3_ := Aside0.mk ((by rw [hg]; exact (below_size (by repeat (first | (with_reducible first | exact HB.out | apply below_alloc | apply pw_below_drewN | apply below_drew1) | exact HB.out))) : w.heap.size ≤ gb177)); clear HB; have HB := n0_; have BK177 := n1_; have GW177 := n2_; have GE177 := n3_; clear n0_ n1_ n2_ n3_; clear hb hbox hg; have hcz10_0 : w9.cell? ⟨gb177, 0, none⟩ = some (.int .i64 a0_0) := (blk_cell BK177.out 0).trans rfl; have hcz10_1 : w9.cell? ⟨gb177, 1, none⟩ = some (.int .i64 a0_1) := (blk_cell BK177.out 1).trans rfl; have hcz10_2 : w9.cell? ⟨gb177, 2, none⟩ = some (.int .i64 a0_2) := (blk_cell BK177.out 2).trans rfl; have hcz10_3 : w9.cell? ⟨gb177, 3, none⟩ = some (.int .u32 a0_3) := (blk_cell BK177.out 3).trans rfl; have hfz10_0 := blk_frozen BK177.out 0; have hfz10_1 := blk_frozen BK177.out 1; have hfz10_2 := blk_frozen BK177.out 2; have hfz10_3 := blk_frozen BK177.out 3) | ((with_reducible refine gate_dst (N := 18) rfl ?_); refine Kd.R_lit (Kd.int .i64) _ 3 ?hg (N := 18) ?hd (xs := ([wrap64 (a1 + 1), a0_1] : List Int)) (inner := [.int .i64 (wrap64 (a1 + 1)), .int .i64 a0_1]) (ok := fun _ => True) (okp := fun _ => True) ?hr ?hp (fun _ hk => hk) trivial (Below.refl _ _) (Nat.le_refl _) (by simp) ?_; (case hd => rfl); (case hg => rfl); (case hr => first | (go_simp; done) | (go_simp; rfl)); (case hp => exact (Reps.one (show Kd.M (Kd.int .i64) _ _ _ (wrap64 (a1 + 1)) [.int .i64 (wrap64 (a1 + 1))] from rfl) (Reps.one (show Kd.M (Kd.int .i64) _ _ _ a0_1 [.int .i64 a0_1] from rfl) (Reps.none _ _)))); intro v182 w11 ho12 hb hg_ hnew_; clear hg_ hnew_; (first | rw [← Ny181.out] at ho12 | (simp only [Int.reduceToNat] at ho12; rw [← Ny181.out] at ho12)); have n0_ := Aside0.mk (Kd.R_lower ho12 (below_size (by repeat (first | (with_reducible first | exact HB.out | apply below_alloc | apply pw_below_drewN | apply below_drew1 | refine below_set ?_ GE177.out) | exact HB.out)))); have n1_ := Aside0.mk (blk_below (g := gb177) (o := .cells #[.int .i64 a0_0, .int .i64 a0_1, .int .i64 a0_2, .int .u32 a0_3] 25 (0, 0)) (by (with_reducible repeat (first | refine blk_drewN ?_ _ | refine blk_drew ?_ | refine blk_alloc ?_ _)); exact BK177.out) hb); have n2_ := Aside0.mk (below_step (by repeat (first | (with_reducible first | exact HB.out | apply below_alloc | apply pw_below_drewN | apply below_drew1 | refine below_set ?_ GE177.out) | exact HB.out)) hb); clear BK177; clear HB; have HO183 := n0_; have BK177 := n1_; have HB := n2_; clear n0_ n1_ n2_; clear hb ho12))
      go_ret
      exact ⟨_, by first | rfl | (simp [errW_none, errW_some] <;> rfl) | (simp [*, errW_none, errW_some] <;> rfl), by (with_reducible repeat (first | apply Kd.R_alloc | apply Kd.R_drewN | apply Kd.R_drew)); exact HO183.out, by repeat (first | (with_reducible first | exact HB.out | apply below_alloc | apply pw_below_drewN | apply below_drew1 | refine below_set ?_ GE177.out) | exact HB.out)⟩
    · rw [if_neg c8] at H
      have c8b0 : (a0_0 == 9) = false := beq_eq_false_iff_ne.mpr c8
      have c8b1 : (a0_0 != 9) = true := bne_iff_ne.mpr c8
      by_cases c13 : a0_0 = 11
      · rw [if_pos c13] at H
        have c13b0 : (a0_0 == 11) = true := beq_iff_eq.mpr c13
        have c13b1 : (a0_0 != 11) = false := bne_eq_false_iff_eq.mpr c13
        clear c13
        obtain rfl := Option.some.inj H
        go_enter Try.func42, Try.ntmps42
        go_wp2_with (first | ((with_reducible refine gate_dst (N := 2) rfl ?_); refine box_event ?hg (N := 2) ?hd (cs := #[.int .i64 a0_0, .int .i64 a0_1, .int .i64 a0_2, .int .u32 a0_3]) (t := 25) ?hr ?_; (case hd => rfl); (case hg => rfl); (case hr => first | (go_simp; done) | (go_simp; rfl)); intro gb177 hg w14 hbox hb; have n0_ := Aside0.mk (below_step (by repeat (first | (with_reducible first | exact HB.out | apply below_alloc | apply pw_below_drewN | apply below_drew1) | exact HB.out)) hb); have n1_ := Aside0.mk (hbox); have n2_ := Aside0.mk ((by rw [hg]; exact (below_size (by repeat (first | (with_reducible first | exact HB.out | apply below_alloc | apply pw_below_drewN | apply below_drew1) | exact HB.out))) : w.heap.size ≤ gb177)); have n3_ := Aside0.mk ((by rw [hg]; exact (below_size (by repeat (first | (with_reducible first | exact HB.out | apply below_alloc | apply pw_below_drewN | apply below_drew1) | exact HB.out))) : w.heap.size ≤ gb177)); clear HB; have HB := n0_; have BK177 := n1_; have GW177 := n2_; have GE177 := n3_; clear n0_ n1_ n2_ n3_; clear hb hbox hg; have hcz15_0 : w14.cell? ⟨gb177, 0, none⟩ = some (.int .i64 a0_0) := (blk_cell BK177.out 0).trans rfl; have hcz15_1 : w14.cell? ⟨gb177, 1, none⟩ = some (.int .i64 a0_1) := (blk_cell BK177.out 1).trans rfl; have hcz15_2 : w14.cell? ⟨gb177, 2, none⟩ = some (.int .i64 a0_2) := (blk_cell BK177.out 2).trans rfl; have hcz15_3 : w14.cell? ⟨gb177, 3, none⟩ = some (.int .u32 a0_3) := (blk_cell BK177.out 3).trans rfl; have hfz15_0 := blk_frozen BK177.out 0; have hfz15_1 := blk_frozen BK177.out 1; have hfz15_2 := blk_frozen BK177.out 2; have hfz15_3 := blk_frozen BK177.out 3))
        go_ret
        exact ⟨_, by first | rfl | (simp [errW_none, errW_some] <;> rfl) | (simp [*, errW_none, errW_some] <;> rfl), by first | exact Kd.R_nil _ _ _ _ _ | exact Kd.N_nil _ _ _ _ _ | exact Kd.V_nil _ _ _ _ _ | exact Kd.Q_nil _ _ _ _ _ | exact Kd.S_nil _ _ _ _ _, by repeat (first | (with_reducible first | exact HB.out | apply below_alloc | apply pw_below_drewN | apply below_drew1 | refine below_set ?_ GE177.out) | exact HB.out)⟩
      · rw [if_neg c13] at H
        have c13b0 : (a0_0 == 11) = false := beq_eq_false_iff_ne.mpr c13
        have c13b1 : (a0_0 != 11) = true := bne_iff_ne.mpr c13
        obtain ⟨y184, hy184⟩ : ∃ y_ : List Int, y_ = (([wrap64 (a1 + 1)] : List Int)) := ⟨_, rfl⟩
        replace H : (some y184) = some r := by first | (rw [hy184]; with_reducible exact H) | (have H2_ := (Option.bind_some _ _).symm.trans H; rw [hy184]; with_reducible exact H2_) | (have H2_ := (Option.bind_some _ _).symm.trans H; with_reducible exact H2_) | with_reducible exact H | (rw [hy184]; exact H) | exact H
        have Ny184 := Aside0.mk hy184
        clear hy184
        obtain rfl := Option.some.inj H
        go_enter Try.func42, Try.ntmps42
        go_wp2_with (first | ((with_reducible refine gate_dst (N := 2) rfl ?_); refine box_event ?hg (N := 2) ?hd (cs := #[.int .i64 a0_0, .int .i64 a0_1, .int .i64 a0_2, .int .u32 a0_3]) (t := 25) ?hr ?_; (case hd => rfl); (case hg => rfl); (case hr => first | (go_simp; done) | (go_simp; rfl)); intro gb177 hg w16 hbox hb; have n0_ := Aside0.mk (below_step (by repeat (first | (with_reducible first | exact HB.out | apply below_alloc | apply pw_below_drewN | apply below_drew1) | exact HB.out)) hb); have n1_ := Aside0.mk (hbox); have n2_ := Aside0.mk ((by rw [hg]; exact (below_size (by repeat (first | (with_reducible first | exact HB.out | apply below_alloc | apply pw_below_drewN | apply below_drew1) | exact HB.out))) : w.heap.size ≤ gb177)); have n3_ := Aside0.mk ((by rw [hg]; exact (below_size (by repeat (first | (with_reducible first | exact HB.out | apply below_alloc | apply pw_below_drewN | apply below_drew1) | exact HB.out))) : w.heap.size ≤ gb177)); clear HB; have HB := n0_; have BK177 := n1_; have GW177 := n2_; have GE177 := n3_; clear n0_ n1_ n2_ n3_; clear hb hbox hg; have hcz17_0 : w16.cell? ⟨gb177, 0, none⟩ = some (.int .i64 a0_0) := (blk_cell BK177.out 0).trans rfl; have hcz17_1 : w16.cell? ⟨gb177, 1, none⟩ = some (.int .i64 a0_1) := (blk_cell BK177.out 1).trans rfl; have hcz17_2 : w16.cell? ⟨gb177, 2, none⟩ = some (.int .i64 a0_2) := (blk_cell BK177.out 2).trans rfl; have hcz17_3 : w16.cell? ⟨gb177, 3, none⟩ = some (.int .u32 a0_3) := (blk_cell BK177.out 3).trans rfl; have hfz17_0 := blk_frozen BK177.out 0; have hfz17_1 := blk_frozen BK177.out 1; have hfz17_2 := blk_frozen BK177.out 2; have hfz17_3 := blk_frozen BK177.out 3) | ((with_reducible refine gate_dst (N := 23) rfl ?_); refine Kd.R_lit (Kd.int .i64) _ 3 ?hg (N := 23) ?hd (xs := ([wrap64 (a1 + 1)] : List Int)) (inner := [.int .i64 (wrap64 (a1 + 1))]) (ok := fun _ => True) (okp := fun _ => True) ?hr ?hp (fun _ hk => hk) trivial (Below.refl _ _) (Nat.le_refl _) (by simp) ?_; (case hd => rfl); (case hg => rfl); (case hr => first | (go_simp; done) | (go_simp; rfl)); (case hp => exact (Reps.one (show Kd.M (Kd.int .i64) _ _ _ (wrap64 (a1 + 1)) [.int .i64 (wrap64 (a1 + 1))] from rfl) (Reps.none _ _))); intro v185 w18 ho19 hb hg_ hnew_; clear hg_ hnew_; (first | rw [← Ny184.out] at ho19 | (simp only [Int.reduceToNat] at ho19; rw [← Ny184.out] at ho19)); have n0_ := Aside0.mk (Kd.R_lower ho19 (below_size (by repeat (first | (with_reducible first | exact HB.out | apply below_alloc | apply pw_below_drewN | apply below_drew1 | refine below_set ?_ GE177.out) | exact HB.out)))); have n1_ := Aside0.mk (blk_below (g := gb177) (o := .cells #[.int .i64 a0_0, .int .i64 a0_1, .int .i64 a0_2, .int .u32 a0_3] 25 (0, 0)) (by (with_reducible repeat (first | refine blk_drewN ?_ _ | refine blk_drew ?_ | refine blk_alloc ?_ _)); exact BK177.out) hb); have n2_ := Aside0.mk (below_step (by repeat (first | (with_reducible first | exact HB.out | apply below_alloc | apply pw_below_drewN | apply below_drew1 | refine below_set ?_ GE177.out) | exact HB.out)) hb); clear BK177; clear HB; have HO186 := n0_; have BK177 := n1_; have HB := n2_; clear n0_ n1_ n2_; clear hb ho19))
        go_ret
        exact ⟨_, by first | rfl | (simp [errW_none, errW_some] <;> rfl) | (simp [*, errW_none, errW_some] <;> rfl), by (with_reducible repeat (first | apply Kd.R_alloc | apply Kd.R_drewN | apply Kd.R_drew)); exact HO186.out, by repeat (first | (with_reducible first | exact HB.out | apply below_alloc | apply pw_below_drewN | apply below_drew1 | refine below_set ?_ GE177.out) | exact HB.out)⟩

end Go.Proofs.Ytlngcolnjgloaaa.PStackRuns
