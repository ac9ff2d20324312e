-- PRINTED BY print.sh 35421559b90ae4d0a3588c463048766b98c2df88dd9212a6774a882060cdf62d: not written by this session
import Derived.Test.YtlngcolnjgloaaaPStackRunsx0
import Derived.Test.YtlngcolnjgloaaaPStackRunsx7
namespace Go.Proofs.Ytlngcolnjgloaaa.PStackRuns
open Go.RowKit Go.Proofs.YtlngcolnjgloaaaW.PrintWords Go.Proofs.YtlngcolnjgloaaaW.PrintLast Go.Proofs.YtlngcolnjgloaaaW.PrintMore
attribute [local go_sem] max2_int min2_int max_two min_two max_three min_three max_four min_four   -- for this text's walks alone
set_option linter.unusedVariables false
set_option linter.unusedSimpArgs false

/-! ### seedcornref20_Depths: function 26 -/
mutual
def seedcornref20_Depths.j0 : Nat → Int → Bool → Int → List (S28) → Option (List Int × Bool)
  | 0, _, _, _, _ => none
  | k + 1, x1, x36, x188000, x188001 => if x36 = true then (some (([] : List Int), false)) else (if 0 ≤ x1 then (if x1 < (x188001.length : Int) then (if 0 ≤ (((rd_T28 x188001 x1).f4).length : Int) then (if ((((rd_T28 x188001 x1).f4).length : Int) : Int).toNat ≤ 35184372088832 then (seedcornref20_Depths.l0 k x1 ((rd_T28 x188001 x1).f4) (List.replicate ((((rd_T28 x188001 x1).f4).length : Int) : Int).toNat 0) 0 x188000 x188001) else (none)) else (none)) else (none)) else (none))
def seedcornref20_Depths.l0 : Nat → Int → List (S25) → List Int → Int → Int → List (S28) → Option (List Int × Bool)
  | 0, _, _, _, _, _, _ => none
  | k + 1, x1, x6, x7, x8, x188000, x188001 => if x8 < (x7.length : Int) then (if 0 ≤ x8 then (seedcornref20_Depths.l0 k x1 x6 (x7.set (x8 : Int).toNat (-1)) (wrap64 (x8 + 1)) x188000 x188001) else (none)) else (if 0 < (x7.length : Int) then (seedcornref20_Depths.l1 k x1 x6 (x7.set (0 : Int).toNat 0) (([0] : List Int)) x188000 x188001) else (none))
def seedcornref20_Depths.l1 : Nat → Int → List (S25) → List Int → List Int → Int → List (S28) → Option (List Int × Bool)
  | 0, _, _, _, _, _, _ => none
  | k + 1, x1, x6, x7, x9, x188000, x188001 => if (x9.length : Int) > 0 then (if 0 < (x9.length : Int) then (if 1 ≤ (x9.length : Int) then ((some (x9.drop (1 : Int).toNat : List Int)).bind fun y199 => (if 0 ≤ (rd x9 0) then (if (rd x9 0) < (x6.length : Int) then ((seedcornref20_Takes.f k x188000 x188001 x1 ((rd_T25 x6 (rd x9 0)).f0) ((rd_T25 x6 (rd x9 0)).f1) ((rd_T25 x6 (rd x9 0)).f2) ((rd_T25 x6 (rd x9 0)).f3)).bind fun bt203 => (if bt203.2.2 = true then (if bt203.1 < 0 then (seedcornref20_Depths.j3 k x1 x6 x7 y199 (rd x9 0) bt203.1 bt203.2.1 true x188000 x188001) else (if (rd x9 0) < (x7.length : Int) then (if (rd x7 (rd x9 0)) < bt203.1 then (seedcornref20_Depths.j3 k x1 x6 x7 y199 (rd x9 0) bt203.1 bt203.2.1 true x188000 x188001) else (if ((rd_T25 x6 (rd x9 0)).f0) = 11 then (seedcornref20_Depths.j3 k x1 x6 x7 y199 (rd x9 0) bt203.1 bt203.2.1 ((rd x7 (rd x9 0)) != bt203.1) x188000 x188001) else (seedcornref20_Depths.j3 k x1 x6 x7 y199 (rd x9 0) bt203.1 bt203.2.1 false x188000 x188001))) else (none))) else (seedcornref20_Depths.j3 k x1 x6 x7 y199 (rd x9 0) bt203.1 bt203.2.1 true x188000 x188001))) else (none)) else (none))) else (none)) else (none)) else (some (x7, true))
def seedcornref20_Depths.j3 : Nat → Int → List (S25) → List Int → List Int → Int → Int → Int → Bool → Int → List (S28) → Option (List Int × Bool)
  | 0, _, _, _, _, _, _, _, _, _, _ => none
  | k + 1, x1, x6, x7, x9, x10, x11, x12, x106, x188000, x188001 => if x106 = true then (some (([] : List Int), false)) else (if 0 ≤ x10 then (if x10 < (x7.length : Int) then (if x10 < (x6.length : Int) then ((seedcornref20_Next.f ((rd_T25 x6 x10).f0) ((rd_T25 x6 x10).f1) ((rd_T25 x6 x10).f2) ((rd_T25 x6 x10).f3) x10).bind fun t211 => (seedcornref20_Depths.l2 k x1 x6 x7 x9 (wrap64 ((wrap64 ((rd x7 x10) - x11)) + x12)) t211 0 x188000 x188001)) else (none)) else (none)) else (none))
def seedcornref20_Depths.l2 : Nat → Int → List (S25) → List Int → List Int → Int → List Int → Int → Int → List (S28) → Option (List Int × Bool)
  | 0, _, _, _, _, _, _, _, _, _ => none
  | k + 1, x1, x6, x7, x9, x14, x15, x16, x188000, x188001 => if x16 < (x15.length : Int) then (if 0 ≤ x16 then (if (rd x15 x16) < 0 then (seedcornref20_Depths.j5 k x1 x6 x7 x9 x14 x15 x16 (rd x15 x16) true x188000 x188001) else (if (rd x15 x16) ≥ (x6.length : Int) then (seedcornref20_Depths.j5 k x1 x6 x7 x9 x14 x15 x16 (rd x15 x16) true x188000 x188001) else (if 0 ≤ (rd x15 x16) then (if (rd x15 x16) < (x7.length : Int) then (if (rd x7 (rd x15 x16)) ≥ 0 then (seedcornref20_Depths.j5 k x1 x6 x7 x9 x14 x15 x16 (rd x15 x16) ((rd x7 (rd x15 x16)) != x14) x188000 x188001) else (seedcornref20_Depths.j5 k x1 x6 x7 x9 x14 x15 x16 (rd x15 x16) false x188000 x188001)) else (none)) else (none)))) else (none)) else (seedcornref20_Depths.l1 k x1 x6 x7 x9 x188000 x188001)
def seedcornref20_Depths.j5 : Nat → Int → List (S25) → List Int → List Int → Int → List Int → Int → Int → Bool → Int → List (S28) → Option (List Int × Bool)
  | 0, _, _, _, _, _, _, _, _, _, _, _ => none
  | k + 1, x1, x6, x7, x9, x14, x15, x16, x17, x153, x188000, x188001 => if x153 = true then (some (([] : List Int), false)) else (if 0 ≤ x17 then (if x17 < (x7.length : Int) then (if (rd x7 x17) < 0 then (if x9.length < 17592186044416 then (seedcornref20_Depths.l2 k x1 x6 (x7.set (x17 : Int).toNat x14) (x9 ++ [x17]) x14 x15 (wrap64 (x16 + 1)) x188000 x188001) else (none)) else (seedcornref20_Depths.l2 k x1 x6 x7 x9 x14 x15 (wrap64 (x16 + 1)) x188000 x188001)) else (none)) else (none))
end
def seedcornref20_Depths.f (k : Nat) (a0_0 : Int) (l0_1 : List (S28)) (a1 : Int) : Option (List Int × Bool) := if a1 < 0 then (seedcornref20_Depths.j0 k a1 true a0_0 l0_1) else (if a1 ≥ (l0_1.length : Int) then (seedcornref20_Depths.j0 k a1 true a0_0 l0_1) else (if 0 ≤ a1 then (if a1 < (l0_1.length : Int) then (seedcornref20_Depths.j0 k a1 ((((rd_T28 l0_1 a1).f4).length : Int) == 0) a0_0 l0_1) else (none)) else (none)))
theorem seedcornref20_Depths.mono_l : ∀ k, (∀ y0 y1 y2 y3, LeO (seedcornref20_Depths.j0 k y0 y1 y2 y3) (seedcornref20_Depths.j0 (k + 1) y0 y1 y2 y3)) ∧ (∀ y0 y1 y2 y3 y4 y5, LeO (seedcornref20_Depths.l0 k y0 y1 y2 y3 y4 y5) (seedcornref20_Depths.l0 (k + 1) y0 y1 y2 y3 y4 y5)) ∧ (∀ y0 y1 y2 y3 y4 y5, LeO (seedcornref20_Depths.l1 k y0 y1 y2 y3 y4 y5) (seedcornref20_Depths.l1 (k + 1) y0 y1 y2 y3 y4 y5)) ∧ (∀ y0 y1 y2 y3 y4 y5 y6 y7 y8 y9, LeO (seedcornref20_Depths.j3 k y0 y1 y2 y3 y4 y5 y6 y7 y8 y9) (seedcornref20_Depths.j3 (k + 1) y0 y1 y2 y3 y4 y5 y6 y7 y8 y9)) ∧ (∀ y0 y1 y2 y3 y4 y5 y6 y7 y8, LeO (seedcornref20_Depths.l2 k y0 y1 y2 y3 y4 y5 y6 y7 y8) (seedcornref20_Depths.l2 (k + 1) y0 y1 y2 y3 y4 y5 y6 y7 y8)) ∧ (∀ y0 y1 y2 y3 y4 y5 y6 y7 y8 y9 y10, LeO (seedcornref20_Depths.j5 k y0 y1 y2 y3 y4 y5 y6 y7 y8 y9 y10) (seedcornref20_Depths.j5 (k + 1) y0 y1 y2 y3 y4 y5 y6 y7 y8 y9 y10))
  | 0 => ⟨fun _ _ _ _ r h => by simp [seedcornref20_Depths.j0] at h, fun _ _ _ _ _ _ r h => by simp [seedcornref20_Depths.l0] at h, fun _ _ _ _ _ _ r h => by simp [seedcornref20_Depths.l1] at h, fun _ _ _ _ _ _ _ _ _ _ r h => by simp [seedcornref20_Depths.j3] at h, fun _ _ _ _ _ _ _ _ _ r h => by simp [seedcornref20_Depths.l2] at h, fun _ _ _ _ _ _ _ _ _ _ _ r h => by simp [seedcornref20_Depths.j5] at h⟩
  | k + 1 => by
    obtain ⟨ih0, ih1, ih2, ih3, ih4, ih5⟩ := seedcornref20_Depths.mono_l k
    refine ⟨?_, ?_, ?_, ?_, ?_, ?_⟩
    · intro y0 y1 y2 y3
      unfold seedcornref20_Depths.j0
      repeat' first
      | (with_reducible exact ih0 _ _ _ _)
      | (with_reducible exact ih1 _ _ _ _ _ _)
      | (with_reducible exact ih2 _ _ _ _ _ _)
      | (with_reducible exact ih3 _ _ _ _ _ _ _ _ _ _)
      | (with_reducible exact ih4 _ _ _ _ _ _ _ _ _)
      | (with_reducible exact ih5 _ _ _ _ _ _ _ _ _ _ _)
      | (with_reducible exact seedcornref20_Takes.mono _ _ _ _ _ _ _ _)
      | (with_reducible exact LeO.refl _)
      | (with_reducible exact LeO.none _)
      | (with_reducible refine LeO.ite ?_ ?_)
      | (with_reducible refine LeO.bind ?_ (fun _ => ?_))
      | exact ih0 _ _ _ _
      | exact ih1 _ _ _ _ _ _
      | exact ih2 _ _ _ _ _ _
      | exact ih3 _ _ _ _ _ _ _ _ _ _
      | exact ih4 _ _ _ _ _ _ _ _ _
      | exact ih5 _ _ _ _ _ _ _ _ _ _ _
      | exact seedcornref20_Takes.mono _ _ _ _ _ _ _ _
      | exact LeO.none _
      | refine LeO.ite ?_ ?_
      | refine LeO.bind ?_ (fun _ => ?_)
    · intro y0 y1 y2 y3 y4 y5
      unfold seedcornref20_Depths.l0
      repeat' first
      | (with_reducible exact ih0 _ _ _ _)
      | (with_reducible exact ih1 _ _ _ _ _ _)
      | (with_reducible exact ih2 _ _ _ _ _ _)
      | (with_reducible exact ih3 _ _ _ _ _ _ _ _ _ _)
      | (with_reducible exact ih4 _ _ _ _ _ _ _ _ _)
      | (with_reducible exact ih5 _ _ _ _ _ _ _ _ _ _ _)
      | (with_reducible exact seedcornref20_Takes.mono _ _ _ _ _ _ _ _)
      | (with_reducible exact LeO.refl _)
      | (with_reducible exact LeO.none _)
      | (with_reducible refine LeO.ite ?_ ?_)
      | (with_reducible refine LeO.bind ?_ (fun _ => ?_))
      | exact ih0 _ _ _ _
      | exact ih1 _ _ _ _ _ _
      | exact ih2 _ _ _ _ _ _
      | exact ih3 _ _ _ _ _ _ _ _ _ _
      | exact ih4 _ _ _ _ _ _ _ _ _
      | exact ih5 _ _ _ _ _ _ _ _ _ _ _
      | exact seedcornref20_Takes.mono _ _ _ _ _ _ _ _
      | exact LeO.none _
      | refine LeO.ite ?_ ?_
      | refine LeO.bind ?_ (fun _ => ?_)
    · intro y0 y1 y2 y3 y4 y5
      unfold seedcornref20_Depths.l1
      repeat' first
      | (with_reducible exact ih0 _ _ _ _)
      | (with_reducible exact ih1 _ _ _ _ _ _)
      | (with_reducible exact ih2 _ _ _ _ _ _)
      | (with_reducible exact ih3 _ _ _ _ _ _ _ _ _ _)
      | (with_reducible exact ih4 _ _ _ _ _ _ _ _ _)
      | (with_reducible exact ih5 _ _ _ _ _ _ _ _ _ _ _)
      | (with_reducible exact seedcornref20_Takes.mono _ _ _ _ _ _ _ _)
      | (with_reducible exact LeO.refl _)
      | (with_reducible exact LeO.none _)
      | (with_reducible refine LeO.ite ?_ ?_)
      | (with_reducible refine LeO.bind ?_ (fun _ => ?_))
      | exact ih0 _ _ _ _
      | exact ih1 _ _ _ _ _ _
      | exact ih2 _ _ _ _ _ _
      | exact ih3 _ _ _ _ _ _ _ _ _ _
      | exact ih4 _ _ _ _ _ _ _ _ _
      | exact ih5 _ _ _ _ _ _ _ _ _ _ _
      | exact seedcornref20_Takes.mono _ _ _ _ _ _ _ _
      | exact LeO.none _
      | refine LeO.ite ?_ ?_
      | refine LeO.bind ?_ (fun _ => ?_)
    · intro y0 y1 y2 y3 y4 y5 y6 y7 y8 y9
      unfold seedcornref20_Depths.j3
      repeat' first
      | (with_reducible exact ih0 _ _ _ _)
      | (with_reducible exact ih1 _ _ _ _ _ _)
      | (with_reducible exact ih2 _ _ _ _ _ _)
      | (with_reducible exact ih3 _ _ _ _ _ _ _ _ _ _)
      | (with_reducible exact ih4 _ _ _ _ _ _ _ _ _)
      | (with_reducible exact ih5 _ _ _ _ _ _ _ _ _ _ _)
      | (with_reducible exact seedcornref20_Takes.mono _ _ _ _ _ _ _ _)
      | (with_reducible exact LeO.refl _)
      | (with_reducible exact LeO.none _)
      | (with_reducible refine LeO.ite ?_ ?_)
      | (with_reducible refine LeO.bind ?_ (fun _ => ?_))
      | exact ih0 _ _ _ _
      | exact ih1 _ _ _ _ _ _
      | exact ih2 _ _ _ _ _ _
      | exact ih3 _ _ _ _ _ _ _ _ _ _
      | exact ih4 _ _ _ _ _ _ _ _ _
      | exact ih5 _ _ _ _ _ _ _ _ _ _ _
      | exact seedcornref20_Takes.mono _ _ _ _ _ _ _ _
      | exact LeO.none _
      | refine LeO.ite ?_ ?_
      | refine LeO.bind ?_ (fun _ => ?_)
    · intro y0 y1 y2 y3 y4 y5 y6 y7 y8
      unfold seedcornref20_Depths.l2
      repeat' first
      | (with_reducible exact ih0 _ _ _ _)
      | (with_reducible exact ih1 _ _ _ _ _ _)
      | (with_reducible exact ih2 _ _ _ _ _ _)
      | (with_reducible exact ih3 _ _ _ _ _ _ _ _ _ _)
      | (with_reducible exact ih4 _ _ _ _ _ _ _ _ _)
      | (with_reducible exact ih5 _ _ _ _ _ _ _ _ _ _ _)
      | (with_reducible exact seedcornref20_Takes.mono _ _ _ _ _ _ _ _)
      | (with_reducible exact LeO.refl _)
      | (with_reducible exact LeO.none _)
      | (with_reducible refine LeO.ite ?_ ?_)
      | (with_reducible refine LeO.bind ?_ (fun _ => ?_))
      | exact ih0 _ _ _ _
      | exact ih1 _ _ _ _ _ _
      | exact ih2 _ _ _ _ _ _
      | exact ih3 _ _ _ _ _ _ _ _ _ _
      | exact ih4 _ _ _ _ _ _ _ _ _
      | exact ih5 _ _ _ _ _ _ _ _ _ _ _
      | exact seedcornref20_Takes.mono _ _ _ _ _ _ _ _
      | exact LeO.none _
      | refine LeO.ite ?_ ?_
      | refine LeO.bind ?_ (fun _ => ?_)
    · intro y0 y1 y2 y3 y4 y5 y6 y7 y8 y9 y10
      unfold seedcornref20_Depths.j5
      repeat' first
      | (with_reducible exact ih0 _ _ _ _)
      | (with_reducible exact ih1 _ _ _ _ _ _)
      | (with_reducible exact ih2 _ _ _ _ _ _)
      | (with_reducible exact ih3 _ _ _ _ _ _ _ _ _ _)
      | (with_reducible exact ih4 _ _ _ _ _ _ _ _ _)
      | (with_reducible exact ih5 _ _ _ _ _ _ _ _ _ _ _)
      | (with_reducible exact seedcornref20_Takes.mono _ _ _ _ _ _ _ _)
      | (with_reducible exact LeO.refl _)
      | (with_reducible exact LeO.none _)
      | (with_reducible refine LeO.ite ?_ ?_)
      | (with_reducible refine LeO.bind ?_ (fun _ => ?_))
      | exact ih0 _ _ _ _
      | exact ih1 _ _ _ _ _ _
      | exact ih2 _ _ _ _ _ _
      | exact ih3 _ _ _ _ _ _ _ _ _ _
      | exact ih4 _ _ _ _ _ _ _ _ _
      | exact ih5 _ _ _ _ _ _ _ _ _ _ _
      | exact seedcornref20_Takes.mono _ _ _ _ _ _ _ _
      | exact LeO.none _
      | refine LeO.ite ?_ ?_
      | refine LeO.bind ?_ (fun _ => ?_)
theorem seedcornref20_Depths.mono : ∀ a0 a1 a2 k, LeO (seedcornref20_Depths.f k a0 a1 a2) (seedcornref20_Depths.f (k + 1) a0 a1 a2) := by
  intro a0 a1 a2 k
  obtain ⟨ih0, ih1, ih2, ih3, ih4, ih5⟩ := seedcornref20_Depths.mono_l k
  unfold seedcornref20_Depths.f
  repeat' first
      | (with_reducible exact ih0 _ _ _ _)
      | (with_reducible exact ih1 _ _ _ _ _ _)
      | (with_reducible exact ih2 _ _ _ _ _ _)
      | (with_reducible exact ih3 _ _ _ _ _ _ _ _ _ _)
      | (with_reducible exact ih4 _ _ _ _ _ _ _ _ _)
      | (with_reducible exact ih5 _ _ _ _ _ _ _ _ _ _ _)
      | (with_reducible exact seedcornref20_Takes.mono _ _ _ _ _ _ _ _)
      | (with_reducible exact LeO.refl _)
      | (with_reducible exact LeO.none _)
      | (with_reducible refine LeO.ite ?_ ?_)
      | (with_reducible refine LeO.bind ?_ (fun _ => ?_))
      | exact ih0 _ _ _ _
      | exact ih1 _ _ _ _ _ _
      | exact ih2 _ _ _ _ _ _
      | exact ih3 _ _ _ _ _ _ _ _ _ _
      | exact ih4 _ _ _ _ _ _ _ _ _
      | exact ih5 _ _ _ _ _ _ _ _ _ _ _
      | exact seedcornref20_Takes.mono _ _ _ _ _ _ _ _
      | exact LeO.none _
      | refine LeO.ite ?_ ?_
      | refine LeO.bind ?_ (fun _ => ?_)
def seedcornref20_Depths.T14 : Bool × List (List Nat × List Nat) := (true, [([], []), ([], []), ([], []), ([], []), ([2, 3], [2, 3]), ([4], [4]), ([0, 1, 5], [0, 1, 5]), ([6], [6]), ([7], [7]), ([7], [7]), ([7], [7]), ([8, 6, 0, 1, 2, 3, 4, 5, 6, 7, 8], [8]), ([9, 11, 0, 1, 2, 3, 4, 5, 6, 7, 8, 9, 11], [9]), ([10, 12, 0, 1, 2, 3, 4, 5, 6, 7, 8, 9, 10, 11, 12], [10])])
def seedcornref20_Depths.B14 : List Nat := [0, 0, 0, 0, 12, 28, 63, 127, 255, 255, 255, 511, 3071, 8191]
theorem seedcornref20_Depths.tab14 : rtab .any (opsOf Try.f26 14) = seedcornref20_Depths.T14 := by kernel_rfl
theorem seedcornref20_Depths.bits14 : waitsOk seedcornref20_Depths.T14.2 seedcornref20_Depths.B14 = true := by kernel_rfl
set_option maxHeartbeats 8000000 in
set_option maxRecDepth 100000 in
theorem seedcornref20_Depths.calls (k : Nat) (a0_0 : Int) (A0_1 : Option Addr) (c0_1 : Nat) (l0_1 : List (S28)) (a1 : Int) (r1 : List Int) (r2 : Bool) (w : World) (hr0_1 : Kd.C k28 w A0_1 l0_1.length l0_1) (hc0_1 : l0_1.length ≤ c0_1) (h : seedcornref20_Depths.f k a0_0 l0_1 a1 = some (r1, r2)) :
    Calls Try.prog 26 #[.agg #[.int .i64 a0_0, .slice A0_1 l0_1.length c0_1], .int .i64 a1] w fun e w' => ∃ v0_ : Value, e = .returned (.tuple #[v0_, .bool r2]) ∧ Kd.R (Kd.int .i64) 3 w' w.heap.size (fun _ => True) v0_ r1 ∧ Below w.heap.size w w' := by
  have hu31 := Try.underlying31
  have hu25 := Try.underlying25
  have HR0_1 := Aside0.mk hr0_1
  have HC0_1 := Aside0.mk hc0_1
  clear hr0_1 hc0_1
  have HB := Aside0.mk (Below.refl w.heap.size w)
  have H : (if a1 < 0 then (seedcornref20_Depths.j0 k a1 true a0_0 l0_1) else (if a1 ≥ (l0_1.length : Int) then (seedcornref20_Depths.j0 k a1 true a0_0 l0_1) else (if 0 ≤ a1 then (if a1 < (l0_1.length : Int) then (seedcornref20_Depths.j0 k a1 ((((rd_T28 l0_1 a1).f4).length : Int) == 0) a0_0 l0_1) else (none)) else (none)))) = some (r1, r2) := h
  clear h
  have HC3 := Aside0.mk H
  clear H
  go_enter Try.func26, Try.ntmps26
  go_upto_region 1 with (first | ((with_reducible refine gate_dst (N := 2) rfl ?_); (try (refine gate_guard (by rfl) ?_; dsimp only)); refine box_event ?hg (N := 2) ?hd (cs := #[.int .i64 a0_0, .slice A0_1 l0_1.length c0_1]) (t := 31) ?hr ?_; (case hd => rfl); (case hg => rfl); (case hr => first | (go_simp; done) | (go_simp; rfl)); intro gb187 hg w4 hbox hb; have n0_ := Aside0.mk (below_step (by repeat (first | (with_reducible first | exact HB.out | apply below_alloc | apply pw_below_drewN | apply below_drew1) | exact HB.out)) hb); have n1_ := Aside0.mk (hbox); have n2_ := Aside0.mk ((by rw [hg]; exact (below_size (by repeat (first | (with_reducible first | exact HB.out | apply below_alloc | apply pw_below_drewN | apply below_drew1) | exact HB.out))) : w.heap.size ≤ gb187)); have n3_ := Aside0.mk ((by rw [hg]; exact (below_size (by repeat (first | (with_reducible first | exact HB.out | apply below_alloc | apply pw_below_drewN | apply below_drew1) | exact HB.out))) : w.heap.size ≤ gb187)); clear HB; have HB := n0_; have BK187 := n1_; have GW187 := n2_; have GE187 := n3_; clear n0_ n1_ n2_ n3_; clear hb hbox hg))
  (try simp only [Act.put, List.setIfInBounds_toArray, List.set_cons_zero, List.set_cons_succ])
  go_cut [36] (fun v36 wc => ∃ (kq : Nat) (x36_2 : Bool), v36 = .bool x36_2 ∧ Aside0 (seedcornref20_Depths.j0 kq a1 x36_2 a0_0 l0_1 = some (r1, r2)) ∧ Aside0 (kq ≤ k) ∧ Aside0 (wc.heap[gb187]? = some (.cells #[.int .i64 a0_0, (.slice A0_1 l0_1.length c0_1)] 31 (0, 0))) ∧ Aside0 (Below w.heap.size w wc))
  case first =>
    have H := HC3.out
    clear HC3
    by_cases c5 : a1 < 0
    · rw [if_pos c5] at H
      have c5b0 : decide (a1 < 0) = true := decide_eq_true c5
      clear c5
      (first | rw [c5b0] | (simp only [i64_w, i32_w]; rw [c5b0]) | skip)
      have H' := Aside0.mk H
      clear H
      go_wp2
      go_meet
      case rel => exact ⟨_, (true), (by first | rfl | (simp; done) | (simp [*]; done)), H', ⟨by first | omega | exact Nat.le_refl _⟩, ⟨by (with_reducible repeat (first | refine blk_drewN ?_ _ | refine blk_drew ?_ | refine blk_alloc ?_ _)); exact BK187.out⟩, ⟨by repeat (first | (with_reducible first | exact HB.out | apply below_alloc | apply pw_below_drewN | apply below_drew1 | refine below_set ?_ GE187.out) | exact HB.out)⟩⟩
    · rw [if_neg c5] at H
      have c5b0 : decide (a1 < 0) = false := decide_eq_false c5
      clear c5
      (first | rw [c5b0] | (simp only [i64_w, i32_w]; rw [c5b0]) | skip)
      by_cases c6 : a1 ≥ (l0_1.length : Int)
      · rw [if_pos c6] at H
        have c6b0 : decide ((l0_1.length : Int) ≤ a1) = true := decide_eq_true c6
        clear c6
        have H' := Aside0.mk H
        clear H
        have hcz7_0 : w4.cell? ⟨gb187, 0, none⟩ = some (.int .i64 a0_0) := (blk_cell BK187.out 0).trans rfl
        have hcz7_1 : w4.cell? ⟨gb187, 1, none⟩ = some (.slice A0_1 l0_1.length c0_1) := (blk_cell BK187.out 1).trans rfl
        have hfz7_0 := blk_frozen BK187.out 0
        have hfz7_1 := blk_frozen BK187.out 1
        go_wp2
        go_meet
        case rel => exact ⟨_, (true), (by first | rfl | (simp; done) | (simp [*]; done)), H', ⟨by first | omega | exact Nat.le_refl _⟩, ⟨by (with_reducible repeat (first | refine blk_drewN ?_ _ | refine blk_drew ?_ | refine blk_alloc ?_ _)); exact BK187.out⟩, ⟨by repeat (first | (with_reducible first | exact HB.out | apply below_alloc | apply pw_below_drewN | apply below_drew1 | refine below_set ?_ GE187.out) | exact HB.out)⟩⟩
      · rw [if_neg c6] at H
        have c6b0 : decide ((l0_1.length : Int) ≤ a1) = false := decide_eq_false c6
        clear c6
        by_cases c8 : 0 ≤ a1
        · rw [if_pos c8] at H
          have c8b0 : decide (0 ≤ a1) = true := decide_eq_true c8
          clear c8
          by_cases c9 : a1 < (l0_1.length : Int)
          · rw [if_pos c9] at H
            have c9b0 : decide (a1 < (l0_1.length : Int)) = true := decide_eq_true c9
            clear c9
            have H' := Aside0.mk H
            clear H
            have hcz10_0 : w4.cell? ⟨gb187, 0, none⟩ = some (.int .i64 a0_0) := (blk_cell BK187.out 0).trans rfl
            have hcz10_1 : w4.cell? ⟨gb187, 1, none⟩ = some (.slice A0_1 l0_1.length c0_1) := (blk_cell BK187.out 1).trans rfl
            have hfz10_0 := blk_frozen BK187.out 0
            have hfz10_1 := blk_frozen BK187.out 1
            have p188 : 0 ≤ (a1 : Int) := of_decide_eq_true (by first | (with_reducible assumption) | assumption)
            have q188 : a1 < (l0_1.length : Int) := of_decide_eq_true (by first | (with_reducible assumption) | assumption)
            obtain ⟨ad188, A188_4, c188_4, e188, hx188_0, hx188_1, hx188_2, hx188_3, hx188_4, hl188_4, hi188_4⟩ := at_T28 HR0_1.out a1 p188 q188
            cases e188
            replace hx188_0 := (HB.out.cell (World.block_lt_of_cell? w _ hx188_0)).trans hx188_0
            replace hx188_1 := (HB.out.cell (World.block_lt_of_cell? w _ hx188_1)).trans hx188_1
            replace hx188_2 := (HB.out.cell (World.block_lt_of_cell? w _ hx188_2)).trans hx188_2
            replace hx188_3 := (HB.out.cell (World.block_lt_of_cell? w _ hx188_3)).trans hx188_3
            replace hx188_4 := (HB.out.cell (World.block_lt_of_cell? w _ hx188_4)).trans hx188_4
            have HR188_4 := Aside0.mk hi188_4
            have HC188_4 := Aside0.mk hl188_4
            clear hi188_4 hl188_4
            replace p188 := eq_true p188
            replace q188 := eq_true q188
            go_wp2
            go_meet
            case rel => exact ⟨_, (((((rd_T28 l0_1 a1).f4).length : Int) == 0)), (by first | rfl | (simp; done) | (simp [*]; done)), H', ⟨by first | omega | exact Nat.le_refl _⟩, ⟨by (with_reducible repeat (first | refine blk_drewN ?_ _ | refine blk_drew ?_ | refine blk_alloc ?_ _)); exact BK187.out⟩, ⟨by repeat (first | (with_reducible first | exact HB.out | apply below_alloc | apply pw_below_drewN | apply below_drew1 | refine below_set ?_ GE187.out) | exact HB.out)⟩⟩
          · rw [if_neg c9] at H
            exact absurd H (by simp)
        · rw [if_neg c8] at H
          exact absurd H (by simp)
  case rest =>
    clear HC3
    try clear c1
    try clear p1
    try clear q1
    try clear hx1
    try clear c2
    try clear p2
    try clear c5
    try clear c5b0
    try clear c6
    try clear c6b0
    try clear c8
    try clear c8b0
    try clear c9
    try clear c9b0
    try clear hcz10_0
    try clear hcz10_1
    try clear hcz7_0
    try clear hcz7_1
    try clear hfz10_0
    try clear hfz10_1
    try clear hfz7_0
    try clear hfz7_1
    try clear hx188_0
    try clear hx188_1
    try clear hx188_2
    try clear hx188_3
    try clear hx188_4
    try clear p188
    try clear q188
    obtain ⟨kq, x36_2, rfl, HA, HJ2, BK187, HB⟩ := hcut
    cases kq with
    | zero => exact absurd HA.out (by simp [seedcornref20_Depths.j0])
    | succ kj2 =>
      have H := HA.out
      clear HA
      simp only [seedcornref20_Depths.j0] at H
      by_cases c11 : x36_2 = true
      · subst c11
        have H1 : (some (([] : List Int), false)) = some (r1, r2) := by rw [if_pos rfl] at H; exact H
        clear H
        have H := H1
        clear H1
        simp only [Option.some.injEq, Prod.mk.injEq] at H
        obtain ⟨rfl, rfl⟩ := H
        go_wp2
        go_ret2
        exact ⟨_, by first | rfl | (simp [errW_none, errW_some] <;> rfl) | (simp [*, errW_none, errW_some] <;> rfl), by first | exact Kd.R_nil _ _ _ _ _ | exact Kd.N_nil _ _ _ _ _ | exact Kd.V_nil _ _ _ _ _ | exact Kd.Q_nil _ _ _ _ _ | exact Kd.S_nil _ _ _ _ _, by repeat (first | (with_reducible first | exact HB.out | apply below_alloc | apply pw_below_drewN | apply below_drew1 | refine below_set ?_ GE187.out) | exact HB.out)⟩
      · replace c11 := Bool.eq_false_iff.mpr c11
        subst c11
        have H1 : (if 0 ≤ a1 then (if a1 < (l0_1.length : Int) then (if 0 ≤ (((rd_T28 l0_1 a1).f4).length : Int) then (if ((((rd_T28 l0_1 a1).f4).length : Int) : Int).toNat ≤ 35184372088832 then (seedcornref20_Depths.l0 kj2 a1 ((rd_T28 l0_1 a1).f4) (List.replicate ((((rd_T28 l0_1 a1).f4).length : Int) : Int).toNat 0) 0 a0_0 l0_1) else (none)) else (none)) else (none)) else (none)) = some (r1, r2) := by rw [if_neg (show ¬ (false = true) by decide)] at H; exact H
        clear H
        have H := H1
        clear H1
        by_cases c12 : 0 ≤ a1
        · rw [if_pos c12] at H
          have c12b0 : decide (0 ≤ a1) = true := decide_eq_true c12
          clear c12
          by_cases c13 : a1 < (l0_1.length : Int)
          · rw [if_pos c13] at H
            have c13b0 : decide (a1 < (l0_1.length : Int)) = true := decide_eq_true c13
            clear c13
            by_cases c14 : 0 ≤ (((rd_T28 l0_1 a1).f4).length : Int)
            · rw [if_pos c14] at H
              have c14b0 := eq_true c14
              have c14b1 : decide (0 ≤ (((rd_T28 l0_1 a1).f4).length : Int)) = true := decide_eq_true c14
              clear c14
              by_cases c15 : ((((rd_T28 l0_1 a1).f4).length : Int) : Int).toNat ≤ 35184372088832
              · rw [if_pos c15] at H
                have c15b0 := eq_true c15
                have c15b1 : decide (((((rd_T28 l0_1 a1).f4).length : Int) : Int).toNat ≤ 35184372088832) = true := decide_eq_true c15
                clear c15
                obtain ⟨y190, hy190⟩ : ∃ y_ : List Int, y_ = (List.replicate ((((rd_T28 l0_1 a1).f4).length : Int) : Int).toNat 0) := ⟨_, rfl⟩
                replace H : (seedcornref20_Depths.l0 kj2 a1 ((rd_T28 l0_1 a1).f4) y190 0 a0_0 l0_1) = some (r1, r2) := by first | (rw [hy190]; with_reducible exact H) | (have H2_ := (Option.bind_some _ _).symm.trans H; rw [hy190]; with_reducible exact H2_) | (have H2_ := (Option.bind_some _ _).symm.trans H; with_reducible exact H2_) | with_reducible exact H | (rw [hy190]; exact H) | exact H
                have Ny190 := Aside0.mk hy190
                clear hy190
                have H' := Aside0.mk H
                clear H
                have hcz16_0 : wc.cell? ⟨gb187, 0, none⟩ = some (.int .i64 a0_0) := (blk_cell BK187.out 0).trans rfl
                have hcz16_1 : wc.cell? ⟨gb187, 1, none⟩ = some (.slice A0_1 l0_1.length c0_1) := (blk_cell BK187.out 1).trans rfl
                have hfz16_0 := blk_frozen BK187.out 0
                have hfz16_1 := blk_frozen BK187.out 1
                have p189 : 0 ≤ (a1 : Int) := of_decide_eq_true (by first | (with_reducible assumption) | assumption)
                have q189 : a1 < (l0_1.length : Int) := of_decide_eq_true (by first | (with_reducible assumption) | assumption)
                obtain ⟨ad189, A189_4, c189_4, e189, hx189_0, hx189_1, hx189_2, hx189_3, hx189_4, hl189_4, hi189_4⟩ := at_T28 HR0_1.out a1 p189 q189
                cases e189
                replace hx189_0 := (HB.out.cell (World.block_lt_of_cell? w _ hx189_0)).trans hx189_0
                replace hx189_1 := (HB.out.cell (World.block_lt_of_cell? w _ hx189_1)).trans hx189_1
                replace hx189_2 := (HB.out.cell (World.block_lt_of_cell? w _ hx189_2)).trans hx189_2
                replace hx189_3 := (HB.out.cell (World.block_lt_of_cell? w _ hx189_3)).trans hx189_3
                replace hx189_4 := (HB.out.cell (World.block_lt_of_cell? w _ hx189_4)).trans hx189_4
                have HR189_4 := Aside0.mk hi189_4
                have HC189_4 := Aside0.mk hl189_4
                clear hi189_4 hl189_4
                replace p189 := eq_true p189
                replace q189 := eq_true q189
                go_wp2_with (first | ((with_reducible refine gate_dst (N := 45) rfl ?_); (try (refine gate_guard (by rfl) ?_; dsimp only)); refine Kd.R_make (Kd.int .i64) _ 3 rfl (N := 45) rfl 52 _ _ rfl (((rd_T28 l0_1 a1).f4).length : Int) rfl rfl Try.underlying52 (.int .i64 0) 8 info3 rfl (by decide) (by omega) 0 (ok := fun _ => True) (okp := fun _ => True) rfl (fun _ hk => hk) trivial (of_decide_eq_true (by first | (with_reducible assumption) | assumption)) (Nat.le_trans (Nat.mul_le_mul_right _ (of_decide_eq_true (by first | (with_reducible assumption) | assumption) : (((rd_T28 l0_1 a1).f4).length : Int).toNat ≤ 35184372088832)) (by omega)) (Below.refl _ _) (Nat.le_refl _) ?_; intro v191 w17 ho18 hb hg_ hnew_; clear hg_ hnew_; (first | rw [← Ny190.out] at ho18 | (simp only [Int.reduceToNat] at ho18; rw [← Ny190.out] at ho18)); have n0_ := Aside0.mk (Kd.R_lower ho18 (below_size (by repeat (first | (with_reducible first | exact HB.out | apply below_alloc | apply pw_below_drewN | apply below_drew1 | refine below_set ?_ GE187.out) | exact HB.out)))); have n1_ := Aside0.mk (blk_below (g := gb187) (o := .cells #[.int .i64 a0_0, .slice (some ad189) l0_1.length c0_1] 31 (0, 0)) (by (with_reducible repeat (first | refine blk_drewN ?_ _ | refine blk_drew ?_ | refine blk_alloc ?_ _)); exact BK187.out) hb); have n2_ := Aside0.mk (below_step (by repeat (first | (with_reducible first | exact HB.out | apply below_alloc | apply pw_below_drewN | apply below_drew1 | refine below_set ?_ GE187.out) | exact HB.out)) hb); clear BK187; clear HB; have HO192 := n0_; have BK187 := n1_; have HB := n2_; clear n0_ n1_ n2_; clear hb ho18))
                go_loopg [8] kj2 (fun kq v8 w' => ∃ (x7_2 : List Int) (x8_2 : Int), v8 = .int .i64 x8_2 ∧ Aside0 (seedcornref20_Depths.l0 kq a1 ((rd_T28 l0_1 a1).f4) x7_2 x8_2 a0_0 l0_1 = some (r1, r2)) ∧ Aside0 (kq ≤ kj2) ∧ Aside0 (Kd.R (Kd.int .i64) 3 w' w.heap.size (fun _ => True) v191 x7_2) ∧ Aside0 (w'.heap[gb187]? = some (.cells #[.int .i64 a0_0, (.slice (some ad189) l0_1.length c0_1)] 31 (0, 0))) ∧ Aside0 (Below w.heap.size w w'))
                case atStart => exact ⟨(y190), (0), (by first | rfl | (simp; done) | (simp [*]; done)), H', ⟨Nat.le_refl _⟩, ⟨by (with_reducible repeat (first | apply Kd.R_alloc | apply Kd.R_drewN | apply Kd.R_drew)); exact HO192.out⟩, ⟨by (with_reducible repeat (first | refine blk_drewN ?_ _ | refine blk_drew ?_ | refine blk_alloc ?_ _)); exact BK187.out⟩, ⟨by repeat (first | (with_reducible first | exact HB.out | apply below_alloc | apply pw_below_drewN | apply below_drew1 | refine below_set ?_ GE187.out) | exact HB.out)⟩⟩
                case round =>
                  clear H'
                  try clear c1
                  try clear p1
                  try clear q1
                  try clear hx1
                  try clear c2
                  try clear p2
                  try clear c5
                  try clear c5b0
                  try clear c6
                  try clear c6b0
                  try clear c8
                  try clear c8b0
                  try clear c9
                  try clear c9b0
                  try clear c11
                  try clear c12
                  try clear c12b0
                  try clear c13
                  try clear c13b0
                  try clear c14
                  try clear c14b0
                  try clear c14b1
                  try clear c15
                  try clear c15b0
                  try clear c15b1
                  try clear c18
                  try clear p18
                  try clear q18
                  try clear hx18
                  try clear hcz10_0
                  try clear hcz10_1
                  try clear hcz16_0
                  try clear hcz16_1
                  try clear hcz7_0
                  try clear hcz7_1
                  try clear hfz10_0
                  try clear hfz10_1
                  try clear hfz16_0
                  try clear hfz16_1
                  try clear hfz7_0
                  try clear hfz7_1
                  try clear hx188_0
                  try clear hx188_1
                  try clear hx188_2
                  try clear hx188_3
                  try clear hx188_4
                  try clear hx189_0
                  try clear hx189_1
                  try clear hx189_2
                  try clear hx189_3
                  try clear hx189_4
                  try clear p1
                  try clear p188
                  try clear p189
                  try clear p2
                  try clear q1
                  try clear q188
                  try clear q189
                  obtain ⟨x7_2, x8_2, rfl, HA, HK2, HO_7, BK187, HB⟩ := hrel
                  cases gk with
                  | zero => exact absurd HA.out (by simp [seedcornref20_Depths.l0])
                  | succ k2 =>
                    have H := HA.out
                    clear HA
                    simp only [seedcornref20_Depths.l0] at H
                    by_cases c19 : x8_2 < (x7_2.length : Int)
                    · rw [if_pos c19] at H
                      have c19b0 : decide (x8_2 < (x7_2.length : Int)) = true := decide_eq_true c19
                      clear c19
                      by_cases c20 : 0 ≤ x8_2
                      · rw [if_pos c20] at H
                        have c20b0 : decide (0 ≤ x8_2) = true := decide_eq_true c20
                        clear c20
                        obtain ⟨y193, hy193⟩ : ∃ y_ : List Int, y_ = (x7_2.set (x8_2 : Int).toNat (-1)) := ⟨_, rfl⟩
                        replace H : (seedcornref20_Depths.l0 k2 a1 ((rd_T28 l0_1 a1).f4) y193 (wrap64 (x8_2 + 1)) a0_0 l0_1) = some (r1, r2) := by first | (rw [hy193]; with_reducible exact H) | (have H2_ := (Option.bind_some _ _).symm.trans H; rw [hy193]; with_reducible exact H2_) | (have H2_ := (Option.bind_some _ _).symm.trans H; with_reducible exact H2_) | with_reducible exact H | (rw [hy193]; exact H) | exact H
                        have Ny193 := Aside0.mk hy193
                        clear hy193
                        have H' := Aside0.mk H
                        clear H
                        obtain ⟨Ao22, co22, eo22⟩ := Kd.R_slice HO_7.out
                        subst eo22
                        have p21 : 0 ≤ (x8_2 : Int) := of_decide_eq_true (by first | (with_reducible assumption) | assumption)
                        have q21 : (x8_2 : Int) < ((x7_2.length : Int) : Int) := of_decide_eq_true (by first | (with_reducible assumption) | assumption)
                        obtain ⟨go21, co21, eo21, gb21, gl21, cl21, HG21⟩ := Kd.R_form HO_7.out (by omega)
                        (first | cases eo21 | (injection eo21 with ea_ en_ ec_; (first | subst ea_ | (injection ea_ with ea_; subst ea_)); subst ec_; clear en_))
                        have GB21 := Aside0.mk gb21
                        have GG21 := Aside0.mk HG21
                        clear gb21 gl21 HG21
                        obtain ⟨hx21_0, hf21_0⟩ := Kd.R_celln 0 HO_7.out (x8_2 : Int) p21 q21
                        replace p21 := eq_true p21
                        replace q21 := eq_true q21
                        have HP23 := Kd.R_putg HO_7.out (x8_2 : Int) (-1)
                        go_wp2_with (first | ((with_reducible refine gate_store (t := 3) (p := 54) rfl ?_); refine store_event (t := 3) (p := 54) (v := ?vo_w24) (w1 := (wr.setCell ⟨go21, (x8_2 : Int).toNat, none⟩ (.int .i64 (-1)))) ?hg ?ho ?hn ?hr ?_; (case ho => rfl); (case hg => rfl); (case hn => rfl); (case hr => first | (go_simp; done) | (go_simp; rfl)); intro w24 hw; have hg : wr.grownBy w24 (some go21) := (by rw [hw]; exact HP23.2); have hp_ : Kd.R (Kd.int .i64) 3 w24 w.heap.size (fun _ => True) (.slice (some ⟨go21, 0, none⟩) x7_2.length co22) y193 := (by rw [hw, Ny193.out]; exact HP23.1); clear HP23; have n0_ := Aside0.mk (hp_); have n1_ := Aside0.mk (blk_grown (g := gb187) (o := .cells #[.int .i64 a0_0, .slice (some ad189) l0_1.length c0_1] 31 (0, 0)) (by (with_reducible repeat (first | refine blk_drewN ?_ _ | refine blk_drew ?_ | refine blk_alloc ?_ _)); exact BK187.out) hg (Kd.R_ne HO_7.out BK187.out (by decide))); have n2_ := Aside0.mk ((by rw [hw]; exact below_set (HB.out) GB21.out : Below w.heap.size w w24)); clear HO_7; clear BK187; clear HB; have HO_7 := n0_; have BK187 := n1_; have HB := n2_; clear n0_ n1_ n2_; clear hg hw hp_))
                        go_roundg k2
                        case measure => have := HJ2.out; have := HK2.out; omega
                        case rel => exact ⟨(y193), (wrap64 (x8_2 + 1)), (by first | rfl | (simp; done) | (simp [*]; done)), H', ⟨by have := HJ2.out; have := HK2.out; omega⟩, ⟨by (with_reducible repeat (first | apply Kd.R_alloc | apply Kd.R_drewN | apply Kd.R_drew)); exact HO_7.out⟩, ⟨by (with_reducible repeat (first | refine blk_drewN ?_ _ | refine blk_drew ?_ | refine blk_alloc ?_ _)); exact BK187.out⟩, ⟨by repeat (first | (with_reducible first | exact HB.out | apply below_alloc | apply pw_below_drewN | apply below_drew1 | refine below_set ?_ GE187.out) | exact HB.out)⟩⟩
                      · rw [if_neg c20] at H
                        exact absurd H (by simp)
                    · rw [if_neg c19] at H
                      have c19b0 : decide (x8_2 < (x7_2.length : Int)) = false := decide_eq_false c19
                      clear c19
                      by_cases c25 : 0 < (x7_2.length : Int)
                      · rw [if_pos c25] at H
                        have c25b0 : decide (0 < (x7_2.length : Int)) = true := decide_eq_true c25
                        have c25b1 : decide (0 < x7_2.length) = true := decide_eq_true (by omega)
                        clear c25
                        obtain ⟨y194, hy194⟩ : ∃ y_ : List Int, y_ = (x7_2.set (0 : Int).toNat 0) := ⟨_, rfl⟩
                        replace H : (seedcornref20_Depths.l1 k2 a1 ((rd_T28 l0_1 a1).f4) y194 (([0] : List Int)) a0_0 l0_1) = some (r1, r2) := by first | (rw [hy194]; with_reducible exact H) | (have H2_ := (Option.bind_some _ _).symm.trans H; rw [hy194]; with_reducible exact H2_) | (have H2_ := (Option.bind_some _ _).symm.trans H; with_reducible exact H2_) | with_reducible exact H | (rw [hy194]; exact H) | exact H
                        have Ny194 := Aside0.mk hy194
                        clear hy194
                        obtain ⟨y195, hy195⟩ : ∃ y_ : List Int, y_ = (([0] : List Int)) := ⟨_, rfl⟩
                        replace H : (seedcornref20_Depths.l1 k2 a1 ((rd_T28 l0_1 a1).f4) y194 y195 a0_0 l0_1) = some (r1, r2) := by first | (rw [hy195]; with_reducible exact H) | (have H2_ := (Option.bind_some _ _).symm.trans H; rw [hy195]; with_reducible exact H2_) | (have H2_ := (Option.bind_some _ _).symm.trans H; with_reducible exact H2_) | with_reducible exact H | (rw [hy195]; exact H) | exact H
                        have Ny195 := Aside0.mk hy195
                        clear hy195
                        have H' := Aside0.mk H
                        clear H
                        obtain ⟨Ao27, co27, eo27⟩ := Kd.R_slice HO_7.out
                        subst eo27
                        have p26 : 0 ≤ (0 : Int) := (by omega)
                        have q26 : (0 : Int) < ((x7_2.length : Int) : Int) := of_decide_eq_true (by first | (with_reducible assumption) | assumption)
                        have qi26 : (0 < x7_2.length) = True := eq_true (by omega)
                        obtain ⟨go26, co26, eo26, gb26, gl26, cl26, HG26⟩ := Kd.R_form HO_7.out (by omega)
                        (first | cases eo26 | (injection eo26 with ea_ en_ ec_; (first | subst ea_ | (injection ea_ with ea_; subst ea_)); subst ec_; clear en_))
                        have GB26 := Aside0.mk gb26
                        have GG26 := Aside0.mk HG26
                        clear gb26 gl26 HG26
                        obtain ⟨hx26_0, hf26_0⟩ := Kd.R_celln 0 HO_7.out (0 : Int) p26 q26
                        (try rw [show ((0 : Int)).toNat = 0 from rfl] at hx26_0)
                        (try simp only [Nat.reduceMul, Nat.zero_mul, Nat.zero_add, Nat.reduceAdd] at hx26_0)
                        (try rw [show ((0 : Int)).toNat = 0 from rfl] at hf26_0)
                        (try simp only [Nat.reduceMul, Nat.zero_mul, Nat.zero_add, Nat.reduceAdd] at hf26_0)
                        replace p26 := eq_true p26
                        replace q26 := eq_true q26
                        have HP28 := Kd.R_putg HO_7.out (0 : Int) 0
                        go_wp2_with (first | ((with_reducible refine gate_store (t := 3) (p := 56) rfl ?_); refine store_event (t := 3) (p := 56) (v := ?vo_w29) (w1 := (wr.setCell ⟨go26, (0 : Int).toNat, none⟩ (.int .i64 0))) ?hg ?ho ?hn ?hr ?_; (case ho => rfl); (case hg => rfl); (case hn => rfl); (case hr => first | (go_simp; done) | (go_simp; rfl)); intro w29 hw; have hg : wr.grownBy w29 (some go26) := (by rw [hw]; exact HP28.2); have hp_ : Kd.R (Kd.int .i64) 3 w29 w.heap.size (fun _ => True) (.slice (some ⟨go26, 0, none⟩) x7_2.length co27) y194 := (by rw [hw, Ny194.out]; exact HP28.1); clear HP28; have n0_ := Aside0.mk (hp_); have n1_ := Aside0.mk (blk_grown (g := gb187) (o := .cells #[.int .i64 a0_0, .slice (some ad189) l0_1.length c0_1] 31 (0, 0)) (by (with_reducible repeat (first | refine blk_drewN ?_ _ | refine blk_drew ?_ | refine blk_alloc ?_ _)); exact BK187.out) hg (Kd.R_ne HO_7.out BK187.out (by decide))); have n2_ := Aside0.mk ((by rw [hw]; exact below_set (HB.out) GB26.out : Below w.heap.size w w29)); clear HO_7; clear BK187; clear HB; have HO_7 := n0_; have BK187 := n1_; have HB := n2_; clear n0_ n1_ n2_; clear hg hw hp_) | ((with_reducible refine gate_dst (N := 57) rfl ?_); (try (refine gate_guard (by rfl) ?_; dsimp only)); refine Kd.R_lit (Kd.int .i64) _ 3 ?hg (N := 57) ?hd (xs := ([0] : List Int)) (inner := [.int .i64 0]) (ok := fun _ => True) (okp := fun _ => True) ?hr ?hp (fun _ hk => hk) trivial (Below.refl _ _) (Nat.le_refl _) (by simp) ?_; (case hd => rfl); (case hg => rfl); (case hr => first | (go_simp; done) | (go_simp; rfl)); (case hp => exact (Reps.one (show Kd.M (Kd.int .i64) _ _ _ 0 [.int .i64 0] from rfl) (Reps.none _ _))); intro v196 w30 ho31 hb hg_ hnew_; clear hg_ hnew_; (first | rw [← Ny195.out] at ho31 | (simp only [Int.reduceToNat] at ho31; rw [← Ny195.out] at ho31)); have n0_ := Aside0.mk (Kd.R_elder' (by (with_reducible repeat (first | apply Kd.R_alloc | apply Kd.R_drewN | apply Kd.R_drew)); exact HO_7.out) (Kd.R_base ho31) hb); have n1_ := Aside0.mk (Kd.R_lower (Kd.R_new' ho31 (Kd.R_lt (by (with_reducible repeat (first | apply Kd.R_alloc | apply Kd.R_drewN | apply Kd.R_drew)); exact HO_7.out))) (below_size (by repeat (first | (with_reducible first | exact HB.out | apply below_alloc | apply pw_below_drewN | apply below_drew1 | refine below_set ?_ GE187.out) | exact HB.out)))); have n2_ := Aside0.mk (blk_below (g := gb187) (o := .cells #[.int .i64 a0_0, .slice (some ad189) l0_1.length c0_1] 31 (0, 0)) (by (with_reducible repeat (first | refine blk_drewN ?_ _ | refine blk_drew ?_ | refine blk_alloc ?_ _)); exact BK187.out) hb); have n3_ := Aside0.mk (below_step (by repeat (first | (with_reducible first | exact HB.out | apply below_alloc | apply pw_below_drewN | apply below_drew1 | refine below_set ?_ GE187.out) | exact HB.out)) hb); clear HO_7; clear BK187; clear HB; have HO_7 := n0_; have HO197 := n1_; have BK187 := n2_; have HB := n3_; clear n0_ n1_ n2_ n3_; clear hb ho31))
                        go_loopg [9] k2 (fun kq v9 w' => ∃ (x7_3 : List Int) (x9_3 : List Int), Aside0 (seedcornref20_Depths.l1 kq a1 ((rd_T28 l0_1 a1).f4) x7_3 x9_3 a0_0 l0_1 = some (r1, r2)) ∧ Aside0 (kq ≤ k2) ∧ Aside0 (Kd.R (Kd.int .i64) 3 w' w.heap.size (fun k_ => some k_ ≠ (v9 : Value).ownBlock) (.slice (some ⟨go26, 0, none⟩) x7_2.length co27) x7_3) ∧ Aside0 (Kd.Q (Kd.int .i64) 3 w' w.heap.size (fun k_ => some k_ ≠ ((.slice (some ⟨go26, 0, none⟩) x7_2.length co27) : Value).ownBlock) v9 x9_3) ∧ Aside0 (w'.heap[gb187]? = some (.cells #[.int .i64 a0_0, (.slice (some ad189) l0_1.length c0_1)] 31 (0, 0))) ∧ Aside0 (Below w.heap.size w w'))
                        case atStart => exact ⟨(y194), (y195), H', ⟨Nat.le_refl _⟩, ⟨by (with_reducible repeat (first | apply Kd.R_alloc | apply Kd.R_drewN | apply Kd.R_drew)); exact Kd.R_mono HO_7.out (fun _ hk => hk.2)⟩, ⟨Kd.Q_of_R (by (with_reducible repeat (first | apply Kd.R_alloc | apply Kd.R_drewN | apply Kd.R_drew)); exact Kd.R_mono HO197.out (fun _ hk => hk.2))⟩, ⟨by (with_reducible repeat (first | refine blk_drewN ?_ _ | refine blk_drew ?_ | refine blk_alloc ?_ _)); exact BK187.out⟩, ⟨by repeat (first | (with_reducible first | exact HB.out | apply below_alloc | apply pw_below_drewN | apply below_drew1 | refine below_set ?_ GE187.out) | exact HB.out)⟩⟩
                        case round =>
                          clear H'
                          try clear c1
                          try clear p1
                          try clear q1
                          try clear hx1
                          try clear c2
                          try clear p2
                          try clear q2
                          try clear hx2
                          try clear qi2
                          try clear hf2
                          try clear c5
                          try clear c5b0
                          try clear c6
                          try clear c6b0
                          try clear p6
                          try clear c8
                          try clear c8b0
                          try clear c9
                          try clear c9b0
                          try clear c11
                          try clear c12
                          try clear c12b0
                          try clear c13
                          try clear c13b0
                          try clear c14
                          try clear c14b0
                          try clear c14b1
                          try clear c15
                          try clear c15b0
                          try clear c15b1
                          try clear c18
                          try clear p18
                          try clear q18
                          try clear hx18
                          try clear c19
                          try clear c19b0
                          try clear c20
                          try clear c20b0
                          try clear p21
                          try clear q21
                          try clear hx21
                          try clear hf21
                          try clear c25
                          try clear c25b0
                          try clear c25b1
                          try clear c26
                          try clear p26
                          try clear q26
                          try clear hx26
                          try clear qi26
                          try clear hf26
                          try clear hcz10_0
                          try clear hcz10_1
                          try clear hcz16_0
                          try clear hcz16_1
                          try clear hcz7_0
                          try clear hcz7_1
                          try clear hfz10_0
                          try clear hfz10_1
                          try clear hfz16_0
                          try clear hfz16_1
                          try clear hfz7_0
                          try clear hfz7_1
                          try clear hx188_0
                          try clear hx188_1
                          try clear hx188_2
                          try clear hx188_3
                          try clear hx188_4
                          try clear hx189_0
                          try clear hx189_1
                          try clear hx189_2
                          try clear hx189_3
                          try clear hx189_4
                          try clear hx21_0
                          try clear hx26_0
                          try clear p1
                          try clear p18
                          try clear p188
                          try clear p189
                          try clear p2
                          try clear p21
                          try clear p26
                          try clear q1
                          try clear q18
                          try clear q188
                          try clear q189
                          try clear q21
                          try clear q26
                          obtain ⟨x7_3, x9_3, HA, HK3, HO_7, HO_9, BK187, HB⟩ := hrel
                          have hl7_3 := (Kd.R_reads' HO_7.out).1
                          rw [hl7_3] at HO_7
                          (try simp only [hl7_3])
                          (try simp only [hl7_3] at BK187)
                          (try simp only [hl7_3] at HO_9)
                          cases gk with
                          | zero => exact absurd HA.out (by simp [seedcornref20_Depths.l1])
                          | succ k3 =>
                            have H := HA.out
                            clear HA
                            simp only [seedcornref20_Depths.l1] at H
                            by_cases c32 : (x9_3.length : Int) > 0
                            · rw [if_pos c32] at H
                              have c32b0 : decide (0 < (x9_3.length : Int)) = true := decide_eq_true c32
                              have c32b1 : decide (0 < x9_3.length) = true := decide_eq_true (by omega)
                              clear c32
                              by_cases c33 : 0 < (x9_3.length : Int)
                              · rw [if_pos c33] at H
                                have c33b0 : decide (0 < (x9_3.length : Int)) = true := decide_eq_true c33
                                have c33b1 : decide (0 < x9_3.length) = true := decide_eq_true (by omega)
                                clear c33
                                by_cases c34 : 1 ≤ (x9_3.length : Int)
                                · rw [if_pos c34] at H
                                  have c34b0 := eq_true c34
                                  have c34b1 : decide (1 ≤ (x9_3.length : Int)) = true := decide_eq_true c34
                                  clear c34
                                  obtain ⟨y199, hy199⟩ : ∃ y_ : List Int, y_ = (x9_3.drop (1 : Int).toNat) := ⟨_, rfl⟩
                                  replace H : (if 0 ≤ (rd x9_3 0) then (if (rd x9_3 0) < (((rd_T28 l0_1 a1).f4).length : Int) then ((seedcornref20_Takes.f k3 a0_0 l0_1 a1 ((rd_T25 ((rd_T28 l0_1 a1).f4) (rd x9_3 0)).f0) ((rd_T25 ((rd_T28 l0_1 a1).f4) (rd x9_3 0)).f1) ((rd_T25 ((rd_T28 l0_1 a1).f4) (rd x9_3 0)).f2) ((rd_T25 ((rd_T28 l0_1 a1).f4) (rd x9_3 0)).f3)).bind fun bt203 => (if bt203.2.2 = true then (if bt203.1 < 0 then (seedcornref20_Depths.j3 k3 a1 ((rd_T28 l0_1 a1).f4) x7_3 y199 (rd x9_3 0) bt203.1 bt203.2.1 true a0_0 l0_1) else (if (rd x9_3 0) < (x7_3.length : Int) then (if (rd x7_3 (rd x9_3 0)) < bt203.1 then (seedcornref20_Depths.j3 k3 a1 ((rd_T28 l0_1 a1).f4) x7_3 y199 (rd x9_3 0) bt203.1 bt203.2.1 true a0_0 l0_1) else (if ((rd_T25 ((rd_T28 l0_1 a1).f4) (rd x9_3 0)).f0) = 11 then (seedcornref20_Depths.j3 k3 a1 ((rd_T28 l0_1 a1).f4) x7_3 y199 (rd x9_3 0) bt203.1 bt203.2.1 ((rd x7_3 (rd x9_3 0)) != bt203.1) a0_0 l0_1) else (seedcornref20_Depths.j3 k3 a1 ((rd_T28 l0_1 a1).f4) x7_3 y199 (rd x9_3 0) bt203.1 bt203.2.1 false a0_0 l0_1))) else (none))) else (seedcornref20_Depths.j3 k3 a1 ((rd_T28 l0_1 a1).f4) x7_3 y199 (rd x9_3 0) bt203.1 bt203.2.1 true a0_0 l0_1))) else (none)) else (none)) = some (r1, r2) := by first | (rw [hy199]; with_reducible exact H) | (have H2_ := (Option.bind_some _ _).symm.trans H; rw [hy199]; with_reducible exact H2_) | (have H2_ := (Option.bind_some _ _).symm.trans H; with_reducible exact H2_) | with_reducible exact H | (rw [hy199]; exact H) | exact H
                                  have Ny199 := Aside0.mk hy199
                                  clear hy199
                                  by_cases c35 : 0 ≤ (rd x9_3 0)
                                  · rw [if_pos c35] at H
                                    have c35b0 : decide (0 ≤ (rd x9_3 0)) = true := decide_eq_true c35
                                    clear c35
                                    by_cases c36 : (rd x9_3 0) < (((rd_T28 l0_1 a1).f4).length : Int)
                                    · rw [if_pos c36] at H
                                      have c36b0 : decide ((rd x9_3 0) < (((rd_T28 l0_1 a1).f4).length : Int)) = true := decide_eq_true c36
                                      clear c36
                                      replace H := Option.bind_eq_some_iff.mp H
                                      obtain ⟨⟨t203, t204, t205⟩, A370, H⟩ := H
                                      replace H : (if t205 = true then (if t203 < 0 then (seedcornref20_Depths.j3 k3 a1 ((rd_T28 l0_1 a1).f4) x7_3 y199 (rd x9_3 0) t203 t204 true a0_0 l0_1) else (if (rd x9_3 0) < (x7_3.length : Int) then (if (rd x7_3 (rd x9_3 0)) < t203 then (seedcornref20_Depths.j3 k3 a1 ((rd_T28 l0_1 a1).f4) x7_3 y199 (rd x9_3 0) t203 t204 true a0_0 l0_1) else (if ((rd_T25 ((rd_T28 l0_1 a1).f4) (rd x9_3 0)).f0) = 11 then (seedcornref20_Depths.j3 k3 a1 ((rd_T28 l0_1 a1).f4) x7_3 y199 (rd x9_3 0) t203 t204 ((rd x7_3 (rd x9_3 0)) != t203) a0_0 l0_1) else (seedcornref20_Depths.j3 k3 a1 ((rd_T28 l0_1 a1).f4) x7_3 y199 (rd x9_3 0) t203 t204 false a0_0 l0_1))) else (none))) else (seedcornref20_Depths.j3 k3 a1 ((rd_T28 l0_1 a1).f4) x7_3 y199 (rd x9_3 0) t203 t204 true a0_0 l0_1)) = some (r1, r2) := H
                                      have A37 := Aside0.mk A370
                                      clear A370
                                      have HC38 := Aside0.mk H
                                      clear H
                                      obtain ⟨Ao39, co39, eo39, _⟩ := Kd.Q_slice HO_9.out
                                      subst eo39
                                      have p198 : 0 ≤ (0 : Int) := (by omega)
                                      have q198 : 0 < (x9_3.length : Int) := of_decide_eq_true (by first | (with_reducible assumption) | assumption)
                                      obtain ⟨ad198, e198, hx198_0⟩ := Kd.at_int (Kd.Q_reads' HO_9.out).2.2 0 p198 q198
                                      cases e198
                                      have qi198 : (0 < x9_3.length) = True := eq_true (by omega)
                                      (try rw [show ((0 : Int)).toNat = 0 from rfl] at hx198_0)
                                      (try rw [Addr.add_zero'] at hx198_0)
                                      replace p198 := eq_true p198
                                      replace q198 := eq_true q198
                                      have q40 : (1 : Int) ≤ ((x9_3.length : Int) : Int) := of_decide_eq_true (by first | (with_reducible assumption) | assumption)
                                      obtain ⟨i040, hi040, _, hsz40, _⟩ := info_parts info3
                                      have hcut40 := cut_from (P := Try.prog) 52 3 .i64 Try.underlying52 hi040 1 hsz40 (some ad198) x9_3.length co39 1 (by omega) q40
                                      have hr40 := Kd.Q_drop (k := (1 : Int).toNat) HO_9.out (by omega)
                                      obtain ⟨A40, hA40⟩ : ∃ A1, A1 = (if co39 = (1 : Int).toNat then (some ad198) else ((some ad198) : Option Addr).map (·.add ((1 : Int).toNat * 1))) := ⟨_, rfl⟩
                                      obtain ⟨c40, hc40⟩ : ∃ c1, c1 = co39 - (1 : Int).toNat := ⟨_, rfl⟩
                                      have hy40 : y199.length = x9_3.length - (1 : Int).toNat := (by rw [Ny199.out, List.length_drop])
                                      rw [← Ny199.out] at hr40
                                      rw [← hy40, ← hA40, ← hc40] at hcut40
                                      replace hr40 : Kd.Q (Kd.int .i64) 3 wr w.heap.size (fun k_ => some k_ ≠ (.slice (some ⟨go26, 0, none⟩) x7_3.length co27 : Value).ownBlock) (.slice A40 y199.length c40) y199 := (by rw [hA40, hc40, hy40]; exact hr40)
                                      have HE40 : Aside0 ((Value.slice A40 y199.length c40).ownBlock = (.slice (some ad198) x9_3.length co39 : Value).ownBlock) := ⟨by rw [hA40]; split <;> (cases ((some ad198) : Option Addr) <;> rfl)⟩
                                      clear hy40 hi040 hsz40 HO_9 hA40 hc40
                                      have HO201 := Aside0.mk hr40
                                      clear hr40
                                      replace q40 := eq_true q40
                                      have n_ := Aside0.mk (Kd.R_mono (ok' := fun k_ => some k_ ≠ (.slice A40 y199.length c40 : Value).ownBlock) HO_7.out (fun k_ hk => (by rw [HE40.out]; exact hk)))
                                      clear HO_7
                                      have HO_7 := n_
                                      clear n_
                                      try go_wp2
                                      have n0_ := Aside0.mk (Kd.R_drew HO_7.out)
                                      have n1_ := Aside0.mk (Kd.Q_drew HO201.out)
                                      have n2_ := Aside0.mk (blk_drew BK187.out)
                                      have n3_ := Aside0.mk (below_drew1 HB.out)
                                      clear HO_7
                                      clear HO201
                                      clear BK187
                                      clear HB
                                      have HO_7 := n0_
                                      have HO201 := n1_
                                      have BK187 := n2_
                                      have HB := n3_
                                      clear n0_ n1_ n2_ n3_
                                      have p202 : 0 ≤ ((rd x9_3 0) : Int) := of_decide_eq_true (by first | (with_reducible assumption) | assumption)
                                      have q202 : (rd x9_3 0) < (((rd_T28 l0_1 a1).f4).length : Int) := of_decide_eq_true (by first | (with_reducible assumption) | assumption)
                                      obtain ⟨ad202, e202, hx202_0, hx202_1, hx202_2, hx202_3⟩ := at_T25 HR189_4.out (rd x9_3 0) p202 q202
                                      have hw202_3 := hx202_3
                                      have hw202_2 := hx202_2
                                      have hw202_1 := hx202_1
                                      have hw202_0 := hx202_0
                                      cases e202
                                      replace hx202_0 := (HB.out.cell (World.block_lt_of_cell? w _ hx202_0)).trans hx202_0
                                      replace hx202_1 := (HB.out.cell (World.block_lt_of_cell? w _ hx202_1)).trans hx202_1
                                      replace hx202_2 := (HB.out.cell (World.block_lt_of_cell? w _ hx202_2)).trans hx202_2
                                      replace hx202_3 := (HB.out.cell (World.block_lt_of_cell? w _ hx202_3)).trans hx202_3
                                      replace p202 := eq_true p202
                                      replace q202 := eq_true q202
                                      refine start_ (n := 14) (S := fun w' => w'.cell? ⟨gb187, 0, none⟩ = some (.int .i64 a0_0) ∧ w'.cell? ⟨gb187, 1, none⟩ = some (.slice (some ad189) l0_1.length c0_1) ∧ w'.cell? (ad202.add (((rd x9_3 0)).toNat * 4)) = some (.int .i64 ((rd_T25 ((rd_T28 l0_1 a1).f4) (rd x9_3 0)).f0)) ∧ w'.cell? ⟨(ad202.add (((rd x9_3 0)).toNat * 4)).block, (ad202.add (((rd x9_3 0)).toNat * 4)).off + 1, none⟩ = some (.int .i64 ((rd_T25 ((rd_T28 l0_1 a1).f4) (rd x9_3 0)).f1)) ∧ w'.cell? ⟨(ad202.add (((rd x9_3 0)).toNat * 4)).block, (ad202.add (((rd x9_3 0)).toNat * 4)).off + 2, none⟩ = some (.int .i64 ((rd_T25 ((rd_T28 l0_1 a1).f4) (rd x9_3 0)).f2)) ∧ w'.cell? ⟨(ad202.add (((rd x9_3 0)).toNat * 4)).block, (ad202.add (((rd x9_3 0)).toNat * 4)).off + 3, none⟩ = some (.int .u32 ((rd_T25 ((rd_T28 l0_1 a1).f4) (rd x9_3 0)).f3))) (ds := []) #[false, false, false, false, false, false, false, false, false, false, false, false, false, false] (by kernel_rfl) rfl rfl ⟨(blk_cell BK187.out 0).trans rfl, (blk_cell BK187.out 1).trans rfl, ((HB.out.cell (World.block_lt_of_cell? w _ hw202_0)).trans hw202_0), ((HB.out.cell (World.block_lt_of_cell? w _ hw202_1)).trans hw202_1), ((HB.out.cell (World.block_lt_of_cell? w _ hw202_2)).trans hw202_2), ((HB.out.cell (World.block_lt_of_cell? w _ hw202_3)).trans hw202_3)⟩ (fun hHeld => ?_); refine with_tabW seedcornref20_Depths.tab14 seedcornref20_Depths.bits14 (fun HT_ HW_ => ?_)
                                      generalize wr.drew = w41 at HO_7 HO201 BK187 HB hx202_0 hx202_1 hx202_2 hx202_3 hHeld ⊢
                                      refine pure_ (i := 1) (N := some 68) (v := ?_) (a' := ?_) #[false, true, false, false, false, false, false, false, false, false, false, false, false, false] rfl rfl (any_of HT_.out (by kernel_rfl)) (fun _ _ _ h => h) (Or.inl ⟨by rfl, ?_⟩) ?_ ?_
                                      rotate_left
                                      · intro w'
                                        go_simp
                                        with_reducible rfl
                                      rotate_left
                                      · simp only [Act.put, List.setIfInBounds_toArray, List.set_cons_zero, List.set_cons_succ, i64_w, i32_w]
                                        rfl
                                      refine pure_ (i := 2) (N := some 69) (v := ?_) (a' := ?_) #[false, true, true, false, false, false, false, false, false, false, false, false, false, false] rfl rfl (any_of HT_.out (by kernel_rfl)) (fun _ _ _ h => h) (Or.inl ⟨by rfl, ?_⟩) ?_ ?_
                                      rotate_left
                                      · intro w'
                                        go_simp
                                        with_reducible rfl
                                      rotate_left
                                      · simp only [Act.put, List.setIfInBounds_toArray, List.set_cons_zero, List.set_cons_succ, i64_w, i32_w]
                                        rfl
                                      refine pure_ (i := 3) (N := some 70) (v := ?_) (a' := ?_) #[false, true, true, true, false, false, false, false, false, false, false, false, false, false] rfl rfl (any_of HT_.out (by kernel_rfl)) (fun _ _ _ h => h) (Or.inl ⟨by rfl, ?_⟩) ?_ ?_
                                      rotate_left
                                      · intro w'
                                        go_simp
                                        with_reducible rfl
                                      rotate_left
                                      · simp only [Act.put, List.setIfInBounds_toArray, List.set_cons_zero, List.set_cons_succ, i64_w, i32_w]
                                        rfl
                                      refine pure_ (i := 4) (N := some 71) (v := ?_) (a' := ?_) #[false, true, true, true, true, false, false, false, false, false, false, false, false, false] rfl rfl (any_of HT_.out (by kernel_rfl)) (fun _ _ _ h => h) (Or.inl ⟨by rfl, ?_⟩) ?_ ?_
                                      rotate_left
                                      · intro w'
                                        go_simp
                                        with_reducible rfl
                                      rotate_left
                                      · simp only [Act.put, List.setIfInBounds_toArray, List.set_cons_zero, List.set_cons_succ, i64_w, i32_w]
                                        rfl
                                      refine take_ (i := 0) (N := some 67) (v := ?_) (a' := ?_) #[true, true, true, true, true, false, false, false, false, false, false, false, false, false] rfl rfl (take_ofW HT_.out HW_.out (by kernel_rfl)) (fun _ _ _ h => h) (Or.inl ⟨by rfl, ?_⟩) hHeld ?_ ?_
                                      rotate_left
                                      · rintro w' ⟨s0, s1, s2, s3, s4, s5⟩
                                        go_simp
                                        with_reducible rfl
                                      rotate_left
                                      · simp only [Act.put, List.setIfInBounds_toArray, List.set_cons_zero, List.set_cons_succ, i64_w, i32_w]
                                        rfl
                                      refine take_ (i := 5) (N := some 72) (v := ?_) (a' := ?_) #[true, true, true, true, true, true, false, false, false, false, false, false, false, false] rfl rfl (take_ofW HT_.out HW_.out (by kernel_rfl)) (fun _ _ _ h => h) (Or.inl ⟨by rfl, ?_⟩) hHeld ?_ ?_
                                      rotate_left
                                      · rintro w' ⟨s0, s1, s2, s3, s4, s5⟩
                                        go_simp
                                        with_reducible rfl
                                      rotate_left
                                      · simp only [Act.put, List.setIfInBounds_toArray, List.set_cons_zero, List.set_cons_succ, i64_w, i32_w]
                                        rfl
                                      refine one_ (i := 6) (N := some 73) #[true, true, true, true, true, true, true, false, false, false, false, false, false, false] rfl rfl (one_of HT_.out (by kernel_rfl)) (by decide) (fun K hK => ?_)
                                      refine goes_ Try.func41 (by kernel_rfl) rfl #[.agg #[.int .i64 a0_0, .slice (some ad189) l0_1.length c0_1], .int .i64 a1, .agg #[.int .i64 ((rd_T25 ((rd_T28 l0_1 a1).f4) (rd x9_3 0)).f0), .int .i64 ((rd_T25 ((rd_T28 l0_1 a1).f4) (rd x9_3 0)).f1), .int .i64 ((rd_T25 ((rd_T28 l0_1 a1).f4) (rd x9_3 0)).f2), .int .u32 ((rd_T25 ((rd_T28 l0_1 a1).f4) (rd x9_3 0)).f3)]] (by rfl) rfl rfl (by (try simp only [List.map_toArray, List.map_cons, List.map_nil]); first | done | rfl | (simp only [List.length_drop, List.length_take]; rfl)) ?_
                                      with_reducible refine (seedcornref20_Takes.calls k3 a0_0 _ _ l0_1 a1 ((rd_T25 ((rd_T28 l0_1 a1).f4) (rd x9_3 0)).f0) ((rd_T25 ((rd_T28 l0_1 a1).f4) (rd x9_3 0)).f1) ((rd_T25 ((rd_T28 l0_1 a1).f4) (rd x9_3 0)).f2) ((rd_T25 ((rd_T28 l0_1 a1).f4) (rd x9_3 0)).f3) t203 t204 t205 _ ?side1 ?side2 A37.out).mono ?_
                                      (case side1 => repeat (first | exact (Kd.C_below HR0_1.out HB.out) | (with_reducible refine Kd.C_alloc ?_ _) | (with_reducible refine Kd.C_drewN ?_ _) | (with_reducible refine Kd.C_drew ?_)))
                                      (case side2 => exact HC0_1.out)
                                      rintro e w42 ⟨rfl, hb⟩
                                      refine ⟨_, rfl, ?_⟩
                                      have n0_ := Aside0.mk (Kd.R_below (by (with_reducible repeat (first | apply Kd.R_alloc | apply Kd.R_drewN | apply Kd.R_drew)); exact HO_7.out) hb)
                                      have n1_ := Aside0.mk (Kd.Q_below (by (with_reducible repeat (first | apply Kd.Q_alloc | apply Kd.Q_drewN | apply Kd.Q_drew)); exact HO201.out) hb)
                                      have n2_ := Aside0.mk (blk_below (g := gb187) (o := .cells #[.int .i64 a0_0, .slice (some ad189) l0_1.length c0_1] 31 (0, 0)) (by (with_reducible repeat (first | refine blk_drewN ?_ _ | refine blk_drew ?_ | refine blk_alloc ?_ _)); exact BK187.out) hb)
                                      have n3_ := Aside0.mk (below_step (by repeat (first | (with_reducible first | exact HB.out | apply below_alloc | apply pw_below_drewN | apply below_drew1 | refine below_set ?_ GE187.out) | exact HB.out)) hb)
                                      clear HO_7
                                      clear HO201
                                      clear BK187
                                      clear HB
                                      have HO_7 := n0_
                                      have HO201 := n1_
                                      have BK187 := n2_
                                      have HB := n3_
                                      clear n0_ n1_ n2_ n3_
                                      (try clear hb)
                                      (try clear hb2)
                                      (try clear hk)
                                      (try clear hi)
                                      refine hK.out _ _ ⟨(blk_cell BK187.out 0).trans rfl, (blk_cell BK187.out 1).trans rfl, ((HB.out.cell (World.block_lt_of_cell? w _ hw202_0)).trans hw202_0), ((HB.out.cell (World.block_lt_of_cell? w _ hw202_1)).trans hw202_1), ((HB.out.cell (World.block_lt_of_cell? w _ hw202_2)).trans hw202_2), ((HB.out.cell (World.block_lt_of_cell? w _ hw202_3)).trans hw202_3)⟩ (fun hHeld => ?_)
                                      clear hK K
                                      refine norm_ (a' := ?_) ?_ ?_
                                      rotate_left
                                      · show Act.put _ (some 73) _ = _
                                        simp only [Act.put, List.setIfInBounds_toArray, List.set_cons_zero, List.set_cons_succ, i64_w, i32_w]
                                        rfl
                                      refine pure_ (i := 7) (N := some 66) (v := ?_) (a' := ?_) #[true, true, true, true, true, true, true, true, false, false, false, false, false, false] rfl rfl (any_of HT_.out (by kernel_rfl)) (fun _ _ _ h => h) (Or.inl ⟨by rfl, ?_⟩) ?_ ?_
                                      rotate_left
                                      · intro w'
                                        go_simp
                                        with_reducible rfl
                                      rotate_left
                                      · simp only [Act.put, List.setIfInBounds_toArray, List.set_cons_zero, List.set_cons_succ, i64_w, i32_w]
                                        rfl
                                      refine pure_ (i := 8) (N := some 74) (v := ?_) (a' := ?_) #[true, true, true, true, true, true, true, true, true, false, false, false, false, false] rfl rfl (any_of HT_.out (by kernel_rfl)) (fun _ _ _ h => h) (Or.inl ⟨by rfl, ?_⟩) ?_ ?_
                                      rotate_left
                                      · intro w'
                                        go_simp
                                        with_reducible rfl
                                      rotate_left
                                      · simp only [Act.put, List.setIfInBounds_toArray, List.set_cons_zero, List.set_cons_succ, i64_w, i32_w]
                                        rfl
                                      refine pure_ (i := 9) (N := some 75) (v := ?_) (a' := ?_) #[true, true, true, true, true, true, true, true, true, true, false, false, false, false] rfl rfl (any_of HT_.out (by kernel_rfl)) (fun _ _ _ h => h) (Or.inl ⟨by rfl, ?_⟩) ?_ ?_
                                      rotate_left
                                      · intro w'
                                        go_simp
                                        with_reducible rfl
                                      rotate_left
                                      · simp only [Act.put, List.setIfInBounds_toArray, List.set_cons_zero, List.set_cons_succ, i64_w, i32_w]
                                        rfl
                                      refine pure_ (i := 10) (N := some 76) (v := ?_) (a' := ?_) #[true, true, true, true, true, true, true, true, true, true, true, false, false, false] rfl rfl (any_of HT_.out (by kernel_rfl)) (fun _ _ _ h => h) (Or.inl ⟨by rfl, ?_⟩) ?_ ?_
                                      rotate_left
                                      · intro w'
                                        go_simp
                                        with_reducible rfl
                                      rotate_left
                                      · simp only [Act.put, List.setIfInBounds_toArray, List.set_cons_zero, List.set_cons_succ, i64_w, i32_w]
                                        rfl
                                      refine pure_ (i := 11) (N := some 11) (v := ?_) (a' := ?_) #[true, true, true, true, true, true, true, true, true, true, true, true, false, false] rfl rfl (any_of HT_.out (by kernel_rfl)) (fun _ _ _ h => h) (Or.inl ⟨by rfl, ?_⟩) ?_ ?_
                                      rotate_left
                                      · intro w'
                                        go_simp
                                        with_reducible rfl
                                      rotate_left
                                      · simp only [Act.put, List.setIfInBounds_toArray, List.set_cons_zero, List.set_cons_succ, i64_w, i32_w]
                                        rfl
                                      refine pure_ (i := 12) (N := some 12) (v := ?_) (a' := ?_) #[true, true, true, true, true, true, true, true, true, true, true, true, true, false] rfl rfl (any_of HT_.out (by kernel_rfl)) (fun _ _ _ h => h) (Or.inl ⟨by rfl, ?_⟩) ?_ ?_
                                      rotate_left
                                      · intro w'
                                        go_simp
                                        with_reducible rfl
                                      rotate_left
                                      · simp only [Act.put, List.setIfInBounds_toArray, List.set_cons_zero, List.set_cons_succ, i64_w, i32_w]
                                        rfl
                                      refine pure_ (i := 13) (N := some 13) (v := ?_) (a' := ?_) #[true, true, true, true, true, true, true, true, true, true, true, true, true, true] rfl rfl (any_of HT_.out (by kernel_rfl)) (fun _ _ _ h => h) (Or.inl ⟨by rfl, ?_⟩) ?_ ?_
                                      rotate_left
                                      · intro w'
                                        go_simp
                                        with_reducible rfl
                                      rotate_left
                                      · simp only [Act.put, List.setIfInBounds_toArray, List.set_cons_zero, List.set_cons_succ, i64_w, i32_w]
                                        rfl
                                      refine done_ (done_of HT_.out (by kernel_rfl)) ?_
                                      go_upto_region 15 with (fail)
                                      go_cut [106] (fun v106 wc => ∃ (kq : Nat) (x106_37 : Bool), v106 = .bool x106_37 ∧ Aside0 (seedcornref20_Depths.j3 kq a1 ((rd_T28 l0_1 a1).f4) x7_3 y199 (rd x9_3 0) t203 t204 x106_37 a0_0 l0_1 = some (r1, r2)) ∧ Aside0 (kq ≤ k3) ∧ Aside0 (Kd.R (Kd.int .i64) 3 wc w.heap.size (fun k_ => some k_ ≠ ((.slice A40 y199.length c40) : Value).ownBlock) (.slice (some ⟨go26, 0, none⟩) x7_3.length co27) x7_3) ∧ Aside0 (Kd.Q (Kd.int .i64) 3 wc w.heap.size (fun k_ => some k_ ≠ ((.slice (some ⟨go26, 0, none⟩) x7_3.length co27) : Value).ownBlock) (.slice A40 y199.length c40) y199) ∧ Aside0 (wc.heap[gb187]? = some (.cells #[.int .i64 a0_0, (.slice (some ad189) l0_1.length c0_1)] 31 (0, 0))) ∧ Aside0 (Below w.heap.size w wc))
                                      case first =>
                                        have H := HC38.out
                                        clear HC38
                                        by_cases c43 : t205 = true
                                        · subst c43
                                          have H1 : (if t203 < 0 then (seedcornref20_Depths.j3 k3 a1 ((rd_T28 l0_1 a1).f4) x7_3 y199 (rd x9_3 0) t203 t204 true a0_0 l0_1) else (if (rd x9_3 0) < (x7_3.length : Int) then (if (rd x7_3 (rd x9_3 0)) < t203 then (seedcornref20_Depths.j3 k3 a1 ((rd_T28 l0_1 a1).f4) x7_3 y199 (rd x9_3 0) t203 t204 true a0_0 l0_1) else (if ((rd_T25 ((rd_T28 l0_1 a1).f4) (rd x9_3 0)).f0) = 11 then (seedcornref20_Depths.j3 k3 a1 ((rd_T28 l0_1 a1).f4) x7_3 y199 (rd x9_3 0) t203 t204 ((rd x7_3 (rd x9_3 0)) != t203) a0_0 l0_1) else (seedcornref20_Depths.j3 k3 a1 ((rd_T28 l0_1 a1).f4) x7_3 y199 (rd x9_3 0) t203 t204 false a0_0 l0_1))) else (none))) = some (r1, r2) := by rw [if_pos rfl] at H; exact H
                                          clear H
                                          have H := H1
                                          clear H1
                                          by_cases c44 : t203 < 0
                                          · rw [if_pos c44] at H
                                            have c44b0 : decide (t203 < 0) = true := decide_eq_true c44
                                            clear c44
                                            (first | rw [c44b0] | (simp only [i64_w, i32_w]; rw [c44b0]) | skip)
                                            have H' := Aside0.mk H
                                            clear H
                                            go_wp2
                                            go_meet
                                            case rel => exact ⟨_, (true), (by first | rfl | (simp; done) | (simp [*]; done)), H', ⟨by have := HJ2.out; have := HK2.out; have := HK3.out; first | omega | exact Nat.le_refl _⟩, ⟨by (try simp only [hl7_3]); (with_reducible repeat (first | apply Kd.R_alloc | apply Kd.R_drewN | apply Kd.R_drew)); exact HO_7.out⟩, ⟨by (try simp only [hl7_3]); (with_reducible repeat (first | apply Kd.Q_alloc | apply Kd.Q_drewN | apply Kd.Q_drew)); exact HO201.out⟩, ⟨by (try simp only [hl7_3]); (with_reducible repeat (first | refine blk_drewN ?_ _ | refine blk_drew ?_ | refine blk_alloc ?_ _)); exact BK187.out⟩, ⟨by repeat (first | (with_reducible first | exact HB.out | apply below_alloc | apply pw_below_drewN | apply below_drew1 | refine below_set ?_ GE187.out) | exact HB.out)⟩⟩
                                          · rw [if_neg c44] at H
                                            have c44b0 : decide (t203 < 0) = false := decide_eq_false c44
                                            clear c44
                                            (first | rw [c44b0] | (simp only [i64_w, i32_w]; rw [c44b0]) | skip)
                                            by_cases c45 : (rd x9_3 0) < (x7_3.length : Int)
                                            · rw [if_pos c45] at H
                                              have c45b0 : decide ((rd x9_3 0) < (x7_3.length : Int)) = true := decide_eq_true c45
                                              clear c45
                                              by_cases c46 : (rd x7_3 (rd x9_3 0)) < t203
                                              · rw [if_pos c46] at H
                                                have c46b0 : decide ((rd x7_3 (rd x9_3 0)) < t203) = true := decide_eq_true c46
                                                clear c46
                                                have H' := Aside0.mk H
                                                clear H
                                                have p206 : 0 ≤ ((rd x9_3 0) : Int) := of_decide_eq_true (by first | (with_reducible assumption) | assumption)
                                                have q206 : (rd x9_3 0) < (x7_3.length : Int) := of_decide_eq_true (by first | (with_reducible assumption) | assumption)
                                                obtain ⟨ad206, e206, hx206_0⟩ := Kd.at_int (Kd.R_reads' HO_7.out).2.2 (rd x9_3 0) p206 q206
                                                obtain rfl : (⟨go26, 0, none⟩ : Addr) = ad206 := (by injection e206)
                                                (first | simp only [add_plain] at hx206_0 | simp only [add_at] at hx206_0 | simp only [Addr.add, Nat.zero_add] at hx206_0 | skip)
                                                replace p206 := eq_true p206
                                                replace q206 := eq_true q206
                                                go_wp2
                                                go_meet
                                                case rel => exact ⟨_, (true), (by first | rfl | (simp; done) | (simp [*]; done)), H', ⟨by have := HJ2.out; have := HK2.out; have := HK3.out; first | omega | exact Nat.le_refl _⟩, ⟨by (try simp only [hl7_3]); (with_reducible repeat (first | apply Kd.R_alloc | apply Kd.R_drewN | apply Kd.R_drew)); exact HO_7.out⟩, ⟨by (try simp only [hl7_3]); (with_reducible repeat (first | apply Kd.Q_alloc | apply Kd.Q_drewN | apply Kd.Q_drew)); exact HO201.out⟩, ⟨by (try simp only [hl7_3]); (with_reducible repeat (first | refine blk_drewN ?_ _ | refine blk_drew ?_ | refine blk_alloc ?_ _)); exact BK187.out⟩, ⟨by repeat (first | (with_reducible first | exact HB.out | apply below_alloc | apply pw_below_drewN | apply below_drew1 | refine below_set ?_ GE187.out) | exact HB.out)⟩⟩
                                              · rw [if_neg c46] at H
                                                have c46b0 : decide ((rd x7_3 (rd x9_3 0)) < t203) = false := decide_eq_false c46
                                                clear c46
                                                by_cases c47 : ((rd_T25 ((rd_T28 l0_1 a1).f4) (rd x9_3 0)).f0) = 11
                                                · rw [if_pos c47] at H
                                                  have c47b0 : (((rd_T25 ((rd_T28 l0_1 a1).f4) (rd x9_3 0)).f0) == 11) = true := beq_iff_eq.mpr c47
                                                  have c47b1 : (((rd_T25 ((rd_T28 l0_1 a1).f4) (rd x9_3 0)).f0) != 11) = false := bne_eq_false_iff_eq.mpr c47
                                                  clear c47
                                                  have H' := Aside0.mk H
                                                  clear H
                                                  have p206 : 0 ≤ ((rd x9_3 0) : Int) := of_decide_eq_true (by first | (with_reducible assumption) | assumption)
                                                  have q206 : (rd x9_3 0) < (x7_3.length : Int) := of_decide_eq_true (by first | (with_reducible assumption) | assumption)
                                                  obtain ⟨ad206, e206, hx206_0⟩ := Kd.at_int (Kd.R_reads' HO_7.out).2.2 (rd x9_3 0) p206 q206
                                                  obtain rfl : (⟨go26, 0, none⟩ : Addr) = ad206 := (by injection e206)
                                                  (first | simp only [add_plain] at hx206_0 | simp only [add_at] at hx206_0 | simp only [Addr.add, Nat.zero_add] at hx206_0 | skip)
                                                  replace p206 := eq_true p206
                                                  replace q206 := eq_true q206
                                                  have p207 : 0 ≤ ((rd x9_3 0) : Int) := of_decide_eq_true (by first | (with_reducible assumption) | assumption)
                                                  have q207 : (rd x9_3 0) < (((rd_T28 l0_1 a1).f4).length : Int) := of_decide_eq_true (by first | (with_reducible assumption) | assumption)
                                                  obtain ⟨ad207, e207, hx207_0, hx207_1, hx207_2, hx207_3⟩ := at_T25 HR189_4.out (rd x9_3 0) p207 q207
                                                  obtain rfl : ad202 = ad207 := (by injection e207)
                                                  replace hx207_0 := (HB.out.cell (World.block_lt_of_cell? w _ hx207_0)).trans hx207_0
                                                  replace hx207_1 := (HB.out.cell (World.block_lt_of_cell? w _ hx207_1)).trans hx207_1
                                                  replace hx207_2 := (HB.out.cell (World.block_lt_of_cell? w _ hx207_2)).trans hx207_2
                                                  replace hx207_3 := (HB.out.cell (World.block_lt_of_cell? w _ hx207_3)).trans hx207_3
                                                  replace p207 := eq_true p207
                                                  replace q207 := eq_true q207
                                                  have p208 : 0 ≤ ((rd x9_3 0) : Int) := of_decide_eq_true (by first | (with_reducible assumption) | assumption)
                                                  have q208 : (rd x9_3 0) < (x7_3.length : Int) := of_decide_eq_true (by first | (with_reducible assumption) | assumption)
                                                  obtain ⟨ad208, e208, hx208_0⟩ := Kd.at_int (Kd.R_reads' HO_7.out).2.2 (rd x9_3 0) p208 q208
                                                  obtain rfl : (⟨go26, 0, none⟩ : Addr) = ad208 := (by injection e208)
                                                  (first | simp only [add_plain] at hx208_0 | simp only [add_at] at hx208_0 | simp only [Addr.add, Nat.zero_add] at hx208_0 | skip)
                                                  replace p208 := eq_true p208
                                                  replace q208 := eq_true q208
                                                  go_wp2
                                                  go_meet
                                                  case rel => exact ⟨_, (((rd x7_3 (rd x9_3 0)) != t203)), (by first | rfl | (simp; done) | (simp [*]; done)), H', ⟨by have := HJ2.out; have := HK2.out; have := HK3.out; first | omega | exact Nat.le_refl _⟩, ⟨by (try simp only [hl7_3]); (with_reducible repeat (first | apply Kd.R_alloc | apply Kd.R_drewN | apply Kd.R_drew)); exact HO_7.out⟩, ⟨by (try simp only [hl7_3]); (with_reducible repeat (first | apply Kd.Q_alloc | apply Kd.Q_drewN | apply Kd.Q_drew)); exact HO201.out⟩, ⟨by (try simp only [hl7_3]); (with_reducible repeat (first | refine blk_drewN ?_ _ | refine blk_drew ?_ | refine blk_alloc ?_ _)); exact BK187.out⟩, ⟨by repeat (first | (with_reducible first | exact HB.out | apply below_alloc | apply pw_below_drewN | apply below_drew1 | refine below_set ?_ GE187.out) | exact HB.out)⟩⟩
                                                · rw [if_neg c47] at H
                                                  have c47b0 : (((rd_T25 ((rd_T28 l0_1 a1).f4) (rd x9_3 0)).f0) == 11) = false := beq_eq_false_iff_ne.mpr c47
                                                  have c47b1 : (((rd_T25 ((rd_T28 l0_1 a1).f4) (rd x9_3 0)).f0) != 11) = true := bne_iff_ne.mpr c47
                                                  have H' := Aside0.mk H
                                                  clear H
                                                  have p206 : 0 ≤ ((rd x9_3 0) : Int) := of_decide_eq_true (by first | (with_reducible assumption) | assumption)
                                                  have q206 : (rd x9_3 0) < (x7_3.length : Int) := of_decide_eq_true (by first | (with_reducible assumption) | assumption)
                                                  obtain ⟨ad206, e206, hx206_0⟩ := Kd.at_int (Kd.R_reads' HO_7.out).2.2 (rd x9_3 0) p206 q206
                                                  obtain rfl : (⟨go26, 0, none⟩ : Addr) = ad206 := (by injection e206)
                                                  (first | simp only [add_plain] at hx206_0 | simp only [add_at] at hx206_0 | simp only [Addr.add, Nat.zero_add] at hx206_0 | skip)
                                                  replace p206 := eq_true p206
                                                  replace q206 := eq_true q206
                                                  have p207 : 0 ≤ ((rd x9_3 0) : Int) := of_decide_eq_true (by first | (with_reducible assumption) | assumption)
                                                  have q207 : (rd x9_3 0) < (((rd_T28 l0_1 a1).f4).length : Int) := of_decide_eq_true (by first | (with_reducible assumption) | assumption)
                                                  obtain ⟨ad207, e207, hx207_0, hx207_1, hx207_2, hx207_3⟩ := at_T25 HR189_4.out (rd x9_3 0) p207 q207
                                                  obtain rfl : ad202 = ad207 := (by injection e207)
                                                  replace hx207_0 := (HB.out.cell (World.block_lt_of_cell? w _ hx207_0)).trans hx207_0
                                                  replace hx207_1 := (HB.out.cell (World.block_lt_of_cell? w _ hx207_1)).trans hx207_1
                                                  replace hx207_2 := (HB.out.cell (World.block_lt_of_cell? w _ hx207_2)).trans hx207_2
                                                  replace hx207_3 := (HB.out.cell (World.block_lt_of_cell? w _ hx207_3)).trans hx207_3
                                                  replace p207 := eq_true p207
                                                  replace q207 := eq_true q207
                                                  go_wp2
                                                  go_meet
                                                  case rel => exact ⟨_, (false), (by first | rfl | (simp; done) | (simp [*]; done)), H', ⟨by have := HJ2.out; have := HK2.out; have := HK3.out; first | omega | exact Nat.le_refl _⟩, ⟨by (try simp only [hl7_3]); (with_reducible repeat (first | apply Kd.R_alloc | apply Kd.R_drewN | apply Kd.R_drew)); exact HO_7.out⟩, ⟨by (try simp only [hl7_3]); (with_reducible repeat (first | apply Kd.Q_alloc | apply Kd.Q_drewN | apply Kd.Q_drew)); exact HO201.out⟩, ⟨by (try simp only [hl7_3]); (with_reducible repeat (first | refine blk_drewN ?_ _ | refine blk_drew ?_ | refine blk_alloc ?_ _)); exact BK187.out⟩, ⟨by repeat (first | (with_reducible first | exact HB.out | apply below_alloc | apply pw_below_drewN | apply below_drew1 | refine below_set ?_ GE187.out) | exact HB.out)⟩⟩
                                            · rw [if_neg c45] at H
                                              exact absurd H (by simp)
                                        · replace c43 := Bool.eq_false_iff.mpr c43
                                          subst c43
                                          have H1 : (seedcornref20_Depths.j3 k3 a1 ((rd_T28 l0_1 a1).f4) x7_3 y199 (rd x9_3 0) t203 t204 true a0_0 l0_1) = some (r1, r2) := by rw [if_neg (show ¬ (false = true) by decide)] at H; exact H
                                          clear H
                                          have H := H1
                                          clear H1
                                          have H' := Aside0.mk H
                                          clear H
                                          go_wp2
                                          go_meet
                                          case rel => exact ⟨_, (true), (by first | rfl | (simp; done) | (simp [*]; done)), H', ⟨by have := HJ2.out; have := HK2.out; have := HK3.out; first | omega | exact Nat.le_refl _⟩, ⟨by (try simp only [hl7_3]); (with_reducible repeat (first | apply Kd.R_alloc | apply Kd.R_drewN | apply Kd.R_drew)); exact HO_7.out⟩, ⟨by (try simp only [hl7_3]); (with_reducible repeat (first | apply Kd.Q_alloc | apply Kd.Q_drewN | apply Kd.Q_drew)); exact HO201.out⟩, ⟨by (try simp only [hl7_3]); (with_reducible repeat (first | refine blk_drewN ?_ _ | refine blk_drew ?_ | refine blk_alloc ?_ _)); exact BK187.out⟩, ⟨by repeat (first | (with_reducible first | exact HB.out | apply below_alloc | apply pw_below_drewN | apply below_drew1 | refine below_set ?_ GE187.out) | exact HB.out)⟩⟩
                                      case rest =>
                                        clear HC38
                                        try clear c1
                                        try clear p1
                                        try clear q1
                                        try clear hx1
                                        try clear qi1
                                        try clear c2
                                        try clear p2
                                        try clear q2
                                        try clear hx2
                                        try clear qi2
                                        try clear hf2
                                        try clear c3
                                        try clear c4
                                        try clear q4
                                        try clear c5
                                        try clear c5b0
                                        try clear c6
                                        try clear c6b0
                                        try clear p6
                                        try clear c8
                                        try clear c8b0
                                        try clear c9
                                        try clear c9b0
                                        try clear c11
                                        try clear c12
                                        try clear c12b0
                                        try clear c13
                                        try clear c13b0
                                        try clear c14
                                        try clear c14b0
                                        try clear c14b1
                                        try clear c15
                                        try clear c15b0
                                        try clear c15b1
                                        try clear c18
                                        try clear p18
                                        try clear q18
                                        try clear hx18
                                        try clear c19
                                        try clear c19b0
                                        try clear p19
                                        try clear q19
                                        try clear hx19
                                        try clear qi19
                                        try clear c20
                                        try clear c20b0
                                        try clear p20
                                        try clear q20
                                        try clear hx20
                                        try clear p21
                                        try clear q21
                                        try clear hx21
                                        try clear hf21
                                        try clear c25
                                        try clear c25b0
                                        try clear c25b1
                                        try clear c26
                                        try clear p26
                                        try clear q26
                                        try clear hx26
                                        try clear qi26
                                        try clear hf26
                                        try clear c32
                                        try clear c32b0
                                        try clear c32b1
                                        try clear c33
                                        try clear c33b0
                                        try clear c33b1
                                        try clear c34
                                        try clear c34b0
                                        try clear c34b1
                                        try clear c35
                                        try clear c35b0
                                        try clear c36
                                        try clear c36b0
                                        try clear c40
                                        try clear q40
                                        try clear c41
                                        try clear c43
                                        try clear c44
                                        try clear c44b0
                                        try clear c45
                                        try clear c45b0
                                        try clear c46
                                        try clear c46b0
                                        try clear c47
                                        try clear c47b0
                                        try clear c47b1
                                        try clear hcz10_0
                                        try clear hcz10_1
                                        try clear hcz16_0
                                        try clear hcz16_1
                                        try clear hcz7_0
                                        try clear hcz7_1
                                        try clear hfz10_0
                                        try clear hfz10_1
                                        try clear hfz16_0
                                        try clear hfz16_1
                                        try clear hfz7_0
                                        try clear hfz7_1
                                        try clear hx188_0
                                        try clear hx188_1
                                        try clear hx188_2
                                        try clear hx188_3
                                        try clear hx188_4
                                        try clear hx189_0
                                        try clear hx189_1
                                        try clear hx189_2
                                        try clear hx189_3
                                        try clear hx189_4
                                        try clear hx198_0
                                        try clear hx202_0
                                        try clear hx202_1
                                        try clear hx202_2
                                        try clear hx202_3
                                        try clear hx206_0
                                        try clear hx207_0
                                        try clear hx207_1
                                        try clear hx207_2
                                        try clear hx207_3
                                        try clear hx208_0
                                        try clear hx21_0
                                        try clear hx26_0
                                        try clear p1
                                        try clear p18
                                        try clear p188
                                        try clear p189
                                        try clear p198
                                        try clear p2
                                        try clear p202
                                        try clear p206
                                        try clear p207
                                        try clear p208
                                        try clear p21
                                        try clear p26
                                        try clear p6
                                        try clear q1
                                        try clear q18
                                        try clear q188
                                        try clear q189
                                        try clear q198
                                        try clear q2
                                        try clear q202
                                        try clear q206
                                        try clear q207
                                        try clear q208
                                        try clear q21
                                        try clear q26
                                        try clear q40
                                        obtain ⟨kq, x106_37, rfl, HA, HJ37, HO_7, HO_9, BK187, HB⟩ := hcut
                                        cases kq with
                                        | zero => exact absurd HA.out (by simp [seedcornref20_Depths.j3])
                                        | succ kj37 =>
                                          have H := HA.out
                                          clear HA
                                          simp only [seedcornref20_Depths.j3] at H
                                          by_cases c48 : x106_37 = true
                                          · subst c48
                                            have H1 : (some (([] : List Int), false)) = some (r1, r2) := by rw [if_pos rfl] at H; exact H
                                            clear H
                                            have H := H1
                                            clear H1
                                            simp only [Option.some.injEq, Prod.mk.injEq] at H
                                            obtain ⟨rfl, rfl⟩ := H
                                            go_wp2
                                            go_ret2
                                            exact ⟨_, by first | rfl | (simp [errW_none, errW_some] <;> rfl) | (simp [*, errW_none, errW_some] <;> rfl), by first | exact Kd.R_nil _ _ _ _ _ | exact Kd.N_nil _ _ _ _ _ | exact Kd.V_nil _ _ _ _ _ | exact Kd.Q_nil _ _ _ _ _ | exact Kd.S_nil _ _ _ _ _, by repeat (first | (with_reducible first | exact HB.out | apply below_alloc | apply pw_below_drewN | apply below_drew1 | refine below_set ?_ GE187.out) | exact HB.out)⟩
                                          · replace c48 := Bool.eq_false_iff.mpr c48
                                            subst c48
                                            have H1 : (if 0 ≤ (rd x9_3 0) then (if (rd x9_3 0) < (x7_3.length : Int) then (if (rd x9_3 0) < (((rd_T28 l0_1 a1).f4).length : Int) then ((seedcornref20_Next.f ((rd_T25 ((rd_T28 l0_1 a1).f4) (rd x9_3 0)).f0) ((rd_T25 ((rd_T28 l0_1 a1).f4) (rd x9_3 0)).f1) ((rd_T25 ((rd_T28 l0_1 a1).f4) (rd x9_3 0)).f2) ((rd_T25 ((rd_T28 l0_1 a1).f4) (rd x9_3 0)).f3) (rd x9_3 0)).bind fun t211 => (seedcornref20_Depths.l2 kj37 a1 ((rd_T28 l0_1 a1).f4) x7_3 y199 (wrap64 ((wrap64 ((rd x7_3 (rd x9_3 0)) - t203)) + t204)) t211 0 a0_0 l0_1)) else (none)) else (none)) else (none)) = some (r1, r2) := by rw [if_neg (show ¬ (false = true) by decide)] at H; exact H
                                            clear H
                                            have H := H1
                                            clear H1
                                            by_cases c49 : 0 ≤ (rd x9_3 0)
                                            · rw [if_pos c49] at H
                                              have c49b0 : decide (0 ≤ (rd x9_3 0)) = true := decide_eq_true c49
                                              clear c49
                                              by_cases c50 : (rd x9_3 0) < (x7_3.length : Int)
                                              · rw [if_pos c50] at H
                                                have c50b0 : decide ((rd x9_3 0) < (x7_3.length : Int)) = true := decide_eq_true c50
                                                clear c50
                                                by_cases c51 : (rd x9_3 0) < (((rd_T28 l0_1 a1).f4).length : Int)
                                                · rw [if_pos c51] at H
                                                  have c51b0 : decide ((rd x9_3 0) < (((rd_T28 l0_1 a1).f4).length : Int)) = true := decide_eq_true c51
                                                  clear c51
                                                  replace H := Option.bind_eq_some_iff.mp H
                                                  obtain ⟨t211, A520, H⟩ := H
                                                  replace H : (seedcornref20_Depths.l2 kj37 a1 ((rd_T28 l0_1 a1).f4) x7_3 y199 (wrap64 ((wrap64 ((rd x7_3 (rd x9_3 0)) - t203)) + t204)) t211 0 a0_0 l0_1) = some (r1, r2) := H
                                                  have A52 := Aside0.mk A520
                                                  clear A520
                                                  have H' := Aside0.mk H
                                                  clear H
                                                  have p209 : 0 ≤ ((rd x9_3 0) : Int) := of_decide_eq_true (by first | (with_reducible assumption) | assumption)
                                                  have q209 : (rd x9_3 0) < (x7_3.length : Int) := of_decide_eq_true (by first | (with_reducible assumption) | assumption)
                                                  obtain ⟨ad209, e209, hx209_0⟩ := Kd.at_int (Kd.R_reads' HO_7.out).2.2 (rd x9_3 0) p209 q209
                                                  obtain rfl : (⟨go26, 0, none⟩ : Addr) = ad209 := (by injection e209)
                                                  (first | simp only [add_plain] at hx209_0 | simp only [add_at] at hx209_0 | simp only [Addr.add, Nat.zero_add] at hx209_0 | skip)
                                                  replace p209 := eq_true p209
                                                  replace q209 := eq_true q209
                                                  have p210 : 0 ≤ ((rd x9_3 0) : Int) := of_decide_eq_true (by first | (with_reducible assumption) | assumption)
                                                  have q210 : (rd x9_3 0) < (((rd_T28 l0_1 a1).f4).length : Int) := of_decide_eq_true (by first | (with_reducible assumption) | assumption)
                                                  obtain ⟨ad210, e210, hx210_0, hx210_1, hx210_2, hx210_3⟩ := at_T25 HR189_4.out (rd x9_3 0) p210 q210
                                                  obtain rfl : ad202 = ad210 := (by injection e210)
                                                  replace hx210_0 := (HB.out.cell (World.block_lt_of_cell? w _ hx210_0)).trans hx210_0
                                                  replace hx210_1 := (HB.out.cell (World.block_lt_of_cell? w _ hx210_1)).trans hx210_1
                                                  replace hx210_2 := (HB.out.cell (World.block_lt_of_cell? w _ hx210_2)).trans hx210_2
                                                  replace hx210_3 := (HB.out.cell (World.block_lt_of_cell? w _ hx210_3)).trans hx210_3
                                                  replace p210 := eq_true p210
                                                  replace q210 := eq_true q210
                                                  go_wp2_with (first | ((with_reducible refine gate_callee (f := 42) rfl ?_); refine goesL_ (some 120) rfl rfl Try.func42 (by kernel_rfl) rfl #[.agg #[.int .i64 ((rd_T25 ((rd_T28 l0_1 a1).f4) (rd x9_3 0)).f0), .int .i64 ((rd_T25 ((rd_T28 l0_1 a1).f4) (rd x9_3 0)).f1), .int .i64 ((rd_T25 ((rd_T28 l0_1 a1).f4) (rd x9_3 0)).f2), .int .u32 ((rd_T25 ((rd_T28 l0_1 a1).f4) (rd x9_3 0)).f3)], .int .i64 (rd x9_3 0)] rfl (by (try simp only [List.map_toArray, List.map_cons, List.map_nil]); first | done | rfl | (simp only [List.length_drop, List.length_take]; rfl)) ?_; (with_reducible refine (seedcornref20_Next.calls ((rd_T25 ((rd_T28 l0_1 a1).f4) (rd x9_3 0)).f0) ((rd_T25 ((rd_T28 l0_1 a1).f4) (rd x9_3 0)).f1) ((rd_T25 ((rd_T28 l0_1 a1).f4) (rd x9_3 0)).f2) ((rd_T25 ((rd_T28 l0_1 a1).f4) (rd x9_3 0)).f3) (rd x9_3 0) t211 _ A52.out).mono ?_); rintro e w53 ⟨v212, rfl, ho0, hb⟩; refine ⟨_, rfl, ?_⟩; have n0_ := Aside0.mk (Kd.R_elder' (by (with_reducible repeat (first | apply Kd.R_alloc | apply Kd.R_drewN | apply Kd.R_drew)); exact HO_7.out) (Kd.R_base ho0) hb); have n1_ := Aside0.mk (Kd.Q_elder' (by (with_reducible repeat (first | apply Kd.Q_alloc | apply Kd.Q_drewN | apply Kd.Q_drew)); exact HO_9.out) (Kd.R_base ho0) hb); have n2_ := Aside0.mk (Kd.R_lower (Kd.R_new' (Kd.R_new' ho0 (Kd.R_lt (by (with_reducible repeat (first | apply Kd.R_alloc | apply Kd.R_drewN | apply Kd.R_drew)); exact HO_7.out))) (Kd.Q_lt (by (with_reducible repeat (first | apply Kd.Q_alloc | apply Kd.Q_drewN | apply Kd.Q_drew)); exact HO_9.out))) (below_size (by repeat (first | (with_reducible first | exact HB.out | apply below_alloc | apply pw_below_drewN | apply below_drew1 | refine below_set ?_ GE187.out) | exact HB.out)))); have n3_ := Aside0.mk (blk_below (g := gb187) (o := .cells #[.int .i64 a0_0, .slice (some ad189) l0_1.length c0_1] 31 (0, 0)) (by (with_reducible repeat (first | refine blk_drewN ?_ _ | refine blk_drew ?_ | refine blk_alloc ?_ _)); exact BK187.out) hb); have n4_ := Aside0.mk (below_step (by repeat (first | (with_reducible first | exact HB.out | apply below_alloc | apply pw_below_drewN | apply below_drew1 | refine below_set ?_ GE187.out) | exact HB.out)) hb); clear HO_7; clear HO_9; clear BK187; clear HB; have HO_7 := n0_; have HO_9 := n1_; have HO213 := n2_; have BK187 := n3_; have HB := n4_; clear n0_ n1_ n2_ n3_ n4_; (try clear hb); (try clear hb2); (try clear hk); (try clear hi); (try clear ho0)))
                                                  go_loopg [9, 16] kj37 (fun kq v9 v16 w' => ∃ (x7_5 : List Int) (x9_5 : List Int) (x16_5 : Int), v16 = .int .i64 x16_5 ∧ Aside0 (seedcornref20_Depths.l2 kq a1 ((rd_T28 l0_1 a1).f4) x7_5 x9_5 (wrap64 ((wrap64 ((rd x7_3 (rd x9_3 0)) - t203)) + t204)) t211 x16_5 a0_0 l0_1 = some (r1, r2)) ∧ Aside0 (kq ≤ kj37) ∧ Aside0 (Kd.R (Kd.int .i64) 3 w' w.heap.size (fun k_ => some k_ ≠ (v9 : Value).ownBlock ∧ some k_ ≠ (v212 : Value).ownBlock) (.slice (some ⟨go26, 0, none⟩) x7_3.length co27) x7_5) ∧ Aside0 (Kd.Q (Kd.int .i64) 3 w' w.heap.size (fun k_ => some k_ ≠ ((.slice (some ⟨go26, 0, none⟩) x7_3.length co27) : Value).ownBlock ∧ some k_ ≠ (v212 : Value).ownBlock) v9 x9_5) ∧ Aside0 (Kd.R (Kd.int .i64) 3 w' w.heap.size (fun k_ => some k_ ≠ ((.slice (some ⟨go26, 0, none⟩) x7_3.length co27) : Value).ownBlock ∧ some k_ ≠ (v9 : Value).ownBlock) v212 t211) ∧ Aside0 (w'.heap[gb187]? = some (.cells #[.int .i64 a0_0, (.slice (some ad189) l0_1.length c0_1)] 31 (0, 0))) ∧ Aside0 (Below w.heap.size w w'))
                                                  case atStart => exact ⟨(x7_3), (y199), (0), (by first | rfl | (simp; done) | (simp [*]; done)), H', ⟨Nat.le_refl _⟩, ⟨by (try simp only [hl7_3]); (with_reducible repeat (first | apply Kd.R_alloc | apply Kd.R_drewN | apply Kd.R_drew)); exact HO_7.out⟩, ⟨by (try simp only [hl7_3]); (with_reducible repeat (first | apply Kd.Q_alloc | apply Kd.Q_drewN | apply Kd.Q_drew)); exact HO_9.out⟩, ⟨by (try simp only [hl7_3]); (with_reducible repeat (first | apply Kd.R_alloc | apply Kd.R_drewN | apply Kd.R_drew)); exact Kd.R_mono HO213.out (fun _ hk => ⟨hk.1.2, hk.2⟩)⟩, ⟨by (try simp only [hl7_3]); (with_reducible repeat (first | refine blk_drewN ?_ _ | refine blk_drew ?_ | refine blk_alloc ?_ _)); exact BK187.out⟩, ⟨by repeat (first | (with_reducible first | exact HB.out | apply below_alloc | apply pw_below_drewN | apply below_drew1 | refine below_set ?_ GE187.out) | exact HB.out)⟩⟩
                                                  case round =>
                                                    clear H'
                                                    try clear c1
                                                    try clear p1
                                                    try clear q1
                                                    try clear hx1
                                                    try clear qi1
                                                    try clear c2
                                                    try clear p2
                                                    try clear q2
                                                    try clear hx2
                                                    try clear qi2
                                                    try clear hf2
                                                    try clear c3
                                                    try clear c4
                                                    try clear q4
                                                    try clear c5
                                                    try clear c5b0
                                                    try clear c6
                                                    try clear c6b0
                                                    try clear p6
                                                    try clear c8
                                                    try clear c8b0
                                                    try clear c9
                                                    try clear c9b0
                                                    try clear c11
                                                    try clear c12
                                                    try clear c12b0
                                                    try clear c13
                                                    try clear c13b0
                                                    try clear c14
                                                    try clear c14b0
                                                    try clear c14b1
                                                    try clear c15
                                                    try clear c15b0
                                                    try clear c15b1
                                                    try clear c18
                                                    try clear p18
                                                    try clear q18
                                                    try clear hx18
                                                    try clear c19
                                                    try clear c19b0
                                                    try clear p19
                                                    try clear q19
                                                    try clear hx19
                                                    try clear qi19
                                                    try clear c20
                                                    try clear c20b0
                                                    try clear p20
                                                    try clear q20
                                                    try clear hx20
                                                    try clear p21
                                                    try clear q21
                                                    try clear hx21
                                                    try clear hf21
                                                    try clear c25
                                                    try clear c25b0
                                                    try clear c25b1
                                                    try clear c26
                                                    try clear p26
                                                    try clear q26
                                                    try clear hx26
                                                    try clear qi26
                                                    try clear hf26
                                                    try clear c32
                                                    try clear c32b0
                                                    try clear c32b1
                                                    try clear c33
                                                    try clear c33b0
                                                    try clear c33b1
                                                    try clear c34
                                                    try clear c34b0
                                                    try clear c34b1
                                                    try clear c35
                                                    try clear c35b0
                                                    try clear c36
                                                    try clear c36b0
                                                    try clear c40
                                                    try clear q40
                                                    try clear c41
                                                    try clear c42
                                                    try clear c43
                                                    try clear c44
                                                    try clear c44b0
                                                    try clear c45
                                                    try clear c45b0
                                                    try clear c46
                                                    try clear c46b0
                                                    try clear c47
                                                    try clear c47b0
                                                    try clear c47b1
                                                    try clear c48
                                                    try clear c49
                                                    try clear c49b0
                                                    try clear c50
                                                    try clear c50b0
                                                    try clear c51
                                                    try clear c51b0
                                                    try clear hcz10_0
                                                    try clear hcz10_1
                                                    try clear hcz16_0
                                                    try clear hcz16_1
                                                    try clear hcz7_0
                                                    try clear hcz7_1
                                                    try clear hfz10_0
                                                    try clear hfz10_1
                                                    try clear hfz16_0
                                                    try clear hfz16_1
                                                    try clear hfz7_0
                                                    try clear hfz7_1
                                                    try clear hx188_0
                                                    try clear hx188_1
                                                    try clear hx188_2
                                                    try clear hx188_3
                                                    try clear hx188_4
                                                    try clear hx189_0
                                                    try clear hx189_1
                                                    try clear hx189_2
                                                    try clear hx189_3
                                                    try clear hx189_4
                                                    try clear hx198_0
                                                    try clear hx202_0
                                                    try clear hx202_1
                                                    try clear hx202_2
                                                    try clear hx202_3
                                                    try clear hx206_0
                                                    try clear hx207_0
                                                    try clear hx207_1
                                                    try clear hx207_2
                                                    try clear hx207_3
                                                    try clear hx208_0
                                                    try clear hx209_0
                                                    try clear hx210_0
                                                    try clear hx210_1
                                                    try clear hx210_2
                                                    try clear hx210_3
                                                    try clear hx21_0
                                                    try clear hx26_0
                                                    try clear p1
                                                    try clear p18
                                                    try clear p188
                                                    try clear p189
                                                    try clear p19
                                                    try clear p198
                                                    try clear p2
                                                    try clear p20
                                                    try clear p202
                                                    try clear p206
                                                    try clear p207
                                                    try clear p208
                                                    try clear p209
                                                    try clear p21
                                                    try clear p210
                                                    try clear p26
                                                    try clear p6
                                                    try clear q1
                                                    try clear q18
                                                    try clear q188
                                                    try clear q189
                                                    try clear q19
                                                    try clear q198
                                                    try clear q2
                                                    try clear q20
                                                    try clear q202
                                                    try clear q206
                                                    try clear q207
                                                    try clear q208
                                                    try clear q209
                                                    try clear q21
                                                    try clear q210
                                                    try clear q26
                                                    try clear q4
                                                    try clear q40
                                                    obtain ⟨x7_5, x9_5, x16_5, rfl, HA, HK5, HO_7, HO_9, HO_15, BK187, HB⟩ := hrel
                                                    have hl7_5 := (Kd.R_reads' HO_7.out).1
                                                    rw [hl7_5] at HO_7
                                                    (try simp only [hl7_5])
                                                    (try simp only [hl7_5] at BK187)
                                                    (try simp only [hl7_5] at HO_9)
                                                    (try simp only [hl7_5] at HO_15)
                                                    cases gk with
                                                    | zero => exact absurd HA.out (by simp [seedcornref20_Depths.l2])
                                                    | succ k5 =>
                                                      have H := HA.out
                                                      clear HA
                                                      simp only [seedcornref20_Depths.l2] at H
                                                      by_cases c54 : x16_5 < (t211.length : Int)
                                                      · rw [if_pos c54] at H
                                                        have c54b0 : decide (x16_5 < (t211.length : Int)) = true := decide_eq_true c54
                                                        clear c54
                                                        by_cases c55 : 0 ≤ x16_5
                                                        · rw [if_pos c55] at H
                                                          have c55b0 : decide (0 ≤ x16_5) = true := decide_eq_true c55
                                                          clear c55
                                                          have HC56 := Aside0.mk H
                                                          clear H
                                                          obtain ⟨Ao57, co57, eo57⟩ := Kd.R_slice HO_15.out
                                                          subst eo57
                                                          have p214 : 0 ≤ (x16_5 : Int) := of_decide_eq_true (by first | (with_reducible assumption) | assumption)
                                                          have q214 : x16_5 < (t211.length : Int) := of_decide_eq_true (by first | (with_reducible assumption) | assumption)
                                                          obtain ⟨ad214, e214, hx214_0⟩ := Kd.at_int (Kd.R_reads' HO_15.out).2.2 x16_5 p214 q214
                                                          cases e214
                                                          replace p214 := eq_true p214
                                                          replace q214 := eq_true q214
                                                          go_upto_region 23 with (fail)
                                                          go_cut [153] (fun v153 wc => ∃ (kq : Nat) (x153_55 : Bool), v153 = .bool x153_55 ∧ Aside0 (seedcornref20_Depths.j5 kq a1 ((rd_T28 l0_1 a1).f4) x7_5 x9_5 (wrap64 ((wrap64 ((rd x7_3 (rd x9_3 0)) - t203)) + t204)) t211 x16_5 (rd t211 x16_5) x153_55 a0_0 l0_1 = some (r1, r2)) ∧ Aside0 (kq ≤ k5) ∧ Aside0 (Kd.R (Kd.int .i64) 3 wc w.heap.size (fun k_ => some k_ ≠ (u9 : Value).ownBlock ∧ some k_ ≠ ((.slice (some ad214) t211.length co57) : Value).ownBlock) (.slice (some ⟨go26, 0, none⟩) x7_5.length co27) x7_5) ∧ Aside0 (Kd.Q (Kd.int .i64) 3 wc w.heap.size (fun k_ => some k_ ≠ ((.slice (some ⟨go26, 0, none⟩) x7_5.length co27) : Value).ownBlock ∧ some k_ ≠ ((.slice (some ad214) t211.length co57) : Value).ownBlock) u9 x9_5) ∧ Aside0 (Kd.R (Kd.int .i64) 3 wc w.heap.size (fun k_ => some k_ ≠ ((.slice (some ⟨go26, 0, none⟩) x7_5.length co27) : Value).ownBlock ∧ some k_ ≠ (u9 : Value).ownBlock) (.slice (some ad214) t211.length co57) t211) ∧ Aside0 (wc.heap[gb187]? = some (.cells #[.int .i64 a0_0, (.slice (some ad189) l0_1.length c0_1)] 31 (0, 0))) ∧ Aside0 (Below w.heap.size w wc))
                                                          case first =>
                                                            have H := HC56.out
                                                            clear HC56
                                                            by_cases c58 : (rd t211 x16_5) < 0
                                                            · rw [if_pos c58] at H
                                                              have c58b0 : decide ((rd t211 x16_5) < 0) = true := decide_eq_true c58
                                                              clear c58
                                                              (first | rw [c58b0] | (simp only [i64_w, i32_w]; rw [c58b0]) | skip)
                                                              have H' := Aside0.mk H
                                                              clear H
                                                              go_wp2
                                                              go_meet
                                                              case rel => exact ⟨_, (true), (by first | rfl | (simp; done) | (simp [*]; done)), H', ⟨by have := HJ2.out; have := HK2.out; have := HK3.out; have := HJ37.out; have := HK5.out; first | omega | exact Nat.le_refl _⟩, ⟨by (try simp only [hl7_3]); (try simp only [hl7_5]); (with_reducible repeat (first | apply Kd.R_alloc | apply Kd.R_drewN | apply Kd.R_drew)); exact HO_7.out⟩, ⟨by (try simp only [hl7_3]); (try simp only [hl7_5]); (with_reducible repeat (first | apply Kd.Q_alloc | apply Kd.Q_drewN | apply Kd.Q_drew)); exact HO_9.out⟩, ⟨by (try simp only [hl7_3]); (try simp only [hl7_5]); (with_reducible repeat (first | apply Kd.R_alloc | apply Kd.R_drewN | apply Kd.R_drew)); exact HO_15.out⟩, ⟨by (try simp only [hl7_3]); (try simp only [hl7_5]); (with_reducible repeat (first | refine blk_drewN ?_ _ | refine blk_drew ?_ | refine blk_alloc ?_ _)); exact BK187.out⟩, ⟨by repeat (first | (with_reducible first | exact HB.out | apply below_alloc | apply pw_below_drewN | apply below_drew1 | refine below_set ?_ GE187.out) | exact HB.out)⟩⟩
                                                            · rw [if_neg c58] at H
                                                              have c58b0 : decide ((rd t211 x16_5) < 0) = false := decide_eq_false c58
                                                              clear c58
                                                              (first | rw [c58b0] | (simp only [i64_w, i32_w]; rw [c58b0]) | skip)
                                                              by_cases c59 : (rd t211 x16_5) ≥ (((rd_T28 l0_1 a1).f4).length : Int)
                                                              · rw [if_pos c59] at H
                                                                have c59b0 : decide ((((rd_T28 l0_1 a1).f4).length : Int) ≤ (rd t211 x16_5)) = true := decide_eq_true c59
                                                                clear c59
                                                                have H' := Aside0.mk H
                                                                clear H
                                                                go_wp2
                                                                go_meet
                                                                case rel => exact ⟨_, (true), (by first | rfl | (simp; done) | (simp [*]; done)), H', ⟨by have := HJ2.out; have := HK2.out; have := HK3.out; have := HJ37.out; have := HK5.out; first | omega | exact Nat.le_refl _⟩, ⟨by (try simp only [hl7_3]); (try simp only [hl7_5]); (with_reducible repeat (first | apply Kd.R_alloc | apply Kd.R_drewN | apply Kd.R_drew)); exact HO_7.out⟩, ⟨by (try simp only [hl7_3]); (try simp only [hl7_5]); (with_reducible repeat (first | apply Kd.Q_alloc | apply Kd.Q_drewN | apply Kd.Q_drew)); exact HO_9.out⟩, ⟨by (try simp only [hl7_3]); (try simp only [hl7_5]); (with_reducible repeat (first | apply Kd.R_alloc | apply Kd.R_drewN | apply Kd.R_drew)); exact HO_15.out⟩, ⟨by (try simp only [hl7_3]); (try simp only [hl7_5]); (with_reducible repeat (first | refine blk_drewN ?_ _ | refine blk_drew ?_ | refine blk_alloc ?_ _)); exact BK187.out⟩, ⟨by repeat (first | (with_reducible first | exact HB.out | apply below_alloc | apply pw_below_drewN | apply below_drew1 | refine below_set ?_ GE187.out) | exact HB.out)⟩⟩
                                                              · rw [if_neg c59] at H
                                                                have c59b0 : decide ((((rd_T28 l0_1 a1).f4).length : Int) ≤ (rd t211 x16_5)) = false := decide_eq_false c59
                                                                clear c59
                                                                by_cases c60 : 0 ≤ (rd t211 x16_5)
                                                                · rw [if_pos c60] at H
                                                                  have c60b0 : decide (0 ≤ (rd t211 x16_5)) = true := decide_eq_true c60
                                                                  clear c60
                                                                  by_cases c61 : (rd t211 x16_5) < (x7_5.length : Int)
                                                                  · rw [if_pos c61] at H
                                                                    have c61b0 : decide ((rd t211 x16_5) < (x7_5.length : Int)) = true := decide_eq_true c61
                                                                    clear c61
                                                                    by_cases c62 : (rd x7_5 (rd t211 x16_5)) ≥ 0
                                                                    · rw [if_pos c62] at H
                                                                      have c62b0 : decide (0 ≤ (rd x7_5 (rd t211 x16_5))) = true := decide_eq_true c62
                                                                      clear c62
                                                                      have H' := Aside0.mk H
                                                                      clear H
                                                                      have p215 : 0 ≤ ((rd t211 x16_5) : Int) := of_decide_eq_true (by first | (with_reducible assumption) | assumption)
                                                                      have q215 : (rd t211 x16_5) < (x7_5.length : Int) := of_decide_eq_true (by first | (with_reducible assumption) | assumption)
                                                                      obtain ⟨ad215, e215, hx215_0⟩ := Kd.at_int (Kd.R_reads' HO_7.out).2.2 (rd t211 x16_5) p215 q215
                                                                      obtain rfl : (⟨go26, 0, none⟩ : Addr) = ad215 := (by injection e215)
                                                                      (first | simp only [add_plain] at hx215_0 | simp only [add_at] at hx215_0 | simp only [Addr.add, Nat.zero_add] at hx215_0 | skip)
                                                                      replace p215 := eq_true p215
                                                                      replace q215 := eq_true q215
                                                                      have p216 : 0 ≤ ((rd t211 x16_5) : Int) := of_decide_eq_true (by first | (with_reducible assumption) | assumption)
                                                                      have q216 : (rd t211 x16_5) < (x7_5.length : Int) := of_decide_eq_true (by first | (with_reducible assumption) | assumption)
                                                                      obtain ⟨ad216, e216, hx216_0⟩ := Kd.at_int (Kd.R_reads' HO_7.out).2.2 (rd t211 x16_5) p216 q216
                                                                      obtain rfl : (⟨go26, 0, none⟩ : Addr) = ad216 := (by injection e216)
                                                                      (first | simp only [add_plain] at hx216_0 | simp only [add_at] at hx216_0 | simp only [Addr.add, Nat.zero_add] at hx216_0 | skip)
                                                                      replace p216 := eq_true p216
                                                                      replace q216 := eq_true q216
                                                                      go_wp2
                                                                      go_meet
                                                                      case rel => exact ⟨_, (((rd x7_5 (rd t211 x16_5)) != (wrap64 ((wrap64 ((rd x7_3 (rd x9_3 0)) - t203)) + t204)))), (by first | rfl | (simp; done) | (simp [*]; done)), H', ⟨by have := HJ2.out; have := HK2.out; have := HK3.out; have := HJ37.out; have := HK5.out; first | omega | exact Nat.le_refl _⟩, ⟨by (try simp only [hl7_3]); (try simp only [hl7_5]); (with_reducible repeat (first | apply Kd.R_alloc | apply Kd.R_drewN | apply Kd.R_drew)); exact HO_7.out⟩, ⟨by (try simp only [hl7_3]); (try simp only [hl7_5]); (with_reducible repeat (first | apply Kd.Q_alloc | apply Kd.Q_drewN | apply Kd.Q_drew)); exact HO_9.out⟩, ⟨by (try simp only [hl7_3]); (try simp only [hl7_5]); (with_reducible repeat (first | apply Kd.R_alloc | apply Kd.R_drewN | apply Kd.R_drew)); exact HO_15.out⟩, ⟨by (try simp only [hl7_3]); (try simp only [hl7_5]); (with_reducible repeat (first | refine blk_drewN ?_ _ | refine blk_drew ?_ | refine blk_alloc ?_ _)); exact BK187.out⟩, ⟨by repeat (first | (with_reducible first | exact HB.out | apply below_alloc | apply pw_below_drewN | apply below_drew1 | refine below_set ?_ GE187.out) | exact HB.out)⟩⟩
                                                                    · rw [if_neg c62] at H
                                                                      have c62b0 : decide (0 ≤ (rd x7_5 (rd t211 x16_5))) = false := decide_eq_false c62
                                                                      clear c62
                                                                      have H' := Aside0.mk H
                                                                      clear H
                                                                      have p215 : 0 ≤ ((rd t211 x16_5) : Int) := of_decide_eq_true (by first | (with_reducible assumption) | assumption)
                                                                      have q215 : (rd t211 x16_5) < (x7_5.length : Int) := of_decide_eq_true (by first | (with_reducible assumption) | assumption)
                                                                      obtain ⟨ad215, e215, hx215_0⟩ := Kd.at_int (Kd.R_reads' HO_7.out).2.2 (rd t211 x16_5) p215 q215
                                                                      obtain rfl : (⟨go26, 0, none⟩ : Addr) = ad215 := (by injection e215)
                                                                      (first | simp only [add_plain] at hx215_0 | simp only [add_at] at hx215_0 | simp only [Addr.add, Nat.zero_add] at hx215_0 | skip)
                                                                      replace p215 := eq_true p215
                                                                      replace q215 := eq_true q215
                                                                      go_wp2
                                                                      go_meet
                                                                      case rel => exact ⟨_, (false), (by first | rfl | (simp; done) | (simp [*]; done)), H', ⟨by have := HJ2.out; have := HK2.out; have := HK3.out; have := HJ37.out; have := HK5.out; first | omega | exact Nat.le_refl _⟩, ⟨by (try simp only [hl7_3]); (try simp only [hl7_5]); (with_reducible repeat (first | apply Kd.R_alloc | apply Kd.R_drewN | apply Kd.R_drew)); exact HO_7.out⟩, ⟨by (try simp only [hl7_3]); (try simp only [hl7_5]); (with_reducible repeat (first | apply Kd.Q_alloc | apply Kd.Q_drewN | apply Kd.Q_drew)); exact HO_9.out⟩, ⟨by (try simp only [hl7_3]); (try simp only [hl7_5]); (with_reducible repeat (first | apply Kd.R_alloc | apply Kd.R_drewN | apply Kd.R_drew)); exact HO_15.out⟩, ⟨by (try simp only [hl7_3]); (try simp only [hl7_5]); (with_reducible repeat (first | refine blk_drewN ?_ _ | refine blk_drew ?_ | refine blk_alloc ?_ _)); exact BK187.out⟩, ⟨by repeat (first | (with_reducible first | exact HB.out | apply below_alloc | apply pw_below_drewN | apply below_drew1 | refine below_set ?_ GE187.out) | exact HB.out)⟩⟩
                                                                  · rw [if_neg c61] at H
                                                                    exact absurd H (by simp)
                                                                · rw [if_neg c60] at H
                                                                  exact absurd H (by simp)
                                                          case rest =>
                                                            clear HC56
                                                            try clear c1
                                                            try clear p1
                                                            try clear q1
                                                            try clear hx1
                                                            try clear qi1
                                                            try clear c2
                                                            try clear p2
                                                            try clear q2
                                                            try clear hx2
                                                            try clear qi2
                                                            try clear hf2
                                                            try clear c3
                                                            try clear c4
                                                            try clear q4
                                                            try clear c5
                                                            try clear c5b0
                                                            try clear c6
                                                            try clear c6b0
                                                            try clear p6
                                                            try clear c8
                                                            try clear c8b0
                                                            try clear c9
                                                            try clear c9b0
                                                            try clear c11
                                                            try clear c12
                                                            try clear c12b0
                                                            try clear c13
                                                            try clear c13b0
                                                            try clear c14
                                                            try clear c14b0
                                                            try clear c14b1
                                                            try clear c15
                                                            try clear c15b0
                                                            try clear c15b1
                                                            try clear c18
                                                            try clear p18
                                                            try clear q18
                                                            try clear hx18
                                                            try clear c19
                                                            try clear c19b0
                                                            try clear p19
                                                            try clear q19
                                                            try clear hx19
                                                            try clear qi19
                                                            try clear c20
                                                            try clear c20b0
                                                            try clear p20
                                                            try clear q20
                                                            try clear hx20
                                                            try clear p21
                                                            try clear q21
                                                            try clear hx21
                                                            try clear hf21
                                                            try clear c25
                                                            try clear c25b0
                                                            try clear c25b1
                                                            try clear c26
                                                            try clear p26
                                                            try clear q26
                                                            try clear hx26
                                                            try clear qi26
                                                            try clear hf26
                                                            try clear c32
                                                            try clear c32b0
                                                            try clear c32b1
                                                            try clear c33
                                                            try clear c33b0
                                                            try clear c33b1
                                                            try clear c34
                                                            try clear c34b0
                                                            try clear c34b1
                                                            try clear c35
                                                            try clear c35b0
                                                            try clear c36
                                                            try clear c36b0
                                                            try clear c40
                                                            try clear q40
                                                            try clear c41
                                                            try clear c42
                                                            try clear c43
                                                            try clear c44
                                                            try clear c44b0
                                                            try clear c45
                                                            try clear c45b0
                                                            try clear c46
                                                            try clear c46b0
                                                            try clear c47
                                                            try clear c47b0
                                                            try clear c47b1
                                                            try clear c48
                                                            try clear c49
                                                            try clear c49b0
                                                            try clear c50
                                                            try clear c50b0
                                                            try clear c51
                                                            try clear c51b0
                                                            try clear c54
                                                            try clear c54b0
                                                            try clear c55
                                                            try clear c55b0
                                                            try clear c58
                                                            try clear c58b0
                                                            try clear c59
                                                            try clear c59b0
                                                            try clear c60
                                                            try clear c60b0
                                                            try clear c61
                                                            try clear c61b0
                                                            try clear c62
                                                            try clear c62b0
                                                            try clear hcz10_0
                                                            try clear hcz10_1
                                                            try clear hcz16_0
                                                            try clear hcz16_1
                                                            try clear hcz7_0
                                                            try clear hcz7_1
                                                            try clear hfz10_0
                                                            try clear hfz10_1
                                                            try clear hfz16_0
                                                            try clear hfz16_1
                                                            try clear hfz7_0
                                                            try clear hfz7_1
                                                            try clear hx188_0
                                                            try clear hx188_1
                                                            try clear hx188_2
                                                            try clear hx188_3
                                                            try clear hx188_4
                                                            try clear hx189_0
                                                            try clear hx189_1
                                                            try clear hx189_2
                                                            try clear hx189_3
                                                            try clear hx189_4
                                                            try clear hx198_0
                                                            try clear hx202_0
                                                            try clear hx202_1
                                                            try clear hx202_2
                                                            try clear hx202_3
                                                            try clear hx206_0
                                                            try clear hx207_0
                                                            try clear hx207_1
                                                            try clear hx207_2
                                                            try clear hx207_3
                                                            try clear hx208_0
                                                            try clear hx209_0
                                                            try clear hx210_0
                                                            try clear hx210_1
                                                            try clear hx210_2
                                                            try clear hx210_3
                                                            try clear hx214_0
                                                            try clear hx215_0
                                                            try clear hx216_0
                                                            try clear hx21_0
                                                            try clear hx26_0
                                                            try clear p1
                                                            try clear p18
                                                            try clear p188
                                                            try clear p189
                                                            try clear p19
                                                            try clear p198
                                                            try clear p2
                                                            try clear p20
                                                            try clear p202
                                                            try clear p206
                                                            try clear p207
                                                            try clear p208
                                                            try clear p209
                                                            try clear p21
                                                            try clear p210
                                                            try clear p214
                                                            try clear p215
                                                            try clear p216
                                                            try clear p26
                                                            try clear p6
                                                            try clear q1
                                                            try clear q18
                                                            try clear q188
                                                            try clear q189
                                                            try clear q19
                                                            try clear q198
                                                            try clear q2
                                                            try clear q20
                                                            try clear q202
                                                            try clear q206
                                                            try clear q207
                                                            try clear q208
                                                            try clear q209
                                                            try clear q21
                                                            try clear q210
                                                            try clear q214
                                                            try clear q215
                                                            try clear q216
                                                            try clear q26
                                                            try clear q4
                                                            try clear q40
                                                            obtain ⟨kq, x153_55, rfl, HA, HJ55, HO_7, HO_9, HO_15, BK187, HB⟩ := hcut
                                                            cases kq with
                                                            | zero => exact absurd HA.out (by simp [seedcornref20_Depths.j5])
                                                            | succ kj55 =>
                                                              have H := HA.out
                                                              clear HA
                                                              simp only [seedcornref20_Depths.j5] at H
                                                              by_cases c63 : x153_55 = true
                                                              · subst c63
                                                                have H1 : (some (([] : List Int), false)) = some (r1, r2) := by rw [if_pos rfl] at H; exact H
                                                                clear H
                                                                have H := H1
                                                                clear H1
                                                                simp only [Option.some.injEq, Prod.mk.injEq] at H
                                                                obtain ⟨rfl, rfl⟩ := H
                                                                go_wp2
                                                                go_ret2
                                                                exact ⟨_, by first | rfl | (simp [errW_none, errW_some] <;> rfl) | (simp [*, errW_none, errW_some] <;> rfl), by first | exact Kd.R_nil _ _ _ _ _ | exact Kd.N_nil _ _ _ _ _ | exact Kd.V_nil _ _ _ _ _ | exact Kd.Q_nil _ _ _ _ _ | exact Kd.S_nil _ _ _ _ _, by repeat (first | (with_reducible first | exact HB.out | apply below_alloc | apply pw_below_drewN | apply below_drew1 | refine below_set ?_ GE187.out) | exact HB.out)⟩
                                                              · replace c63 := Bool.eq_false_iff.mpr c63
                                                                subst c63
                                                                have H1 : (if 0 ≤ (rd t211 x16_5) then (if (rd t211 x16_5) < (x7_5.length : Int) then (if (rd x7_5 (rd t211 x16_5)) < 0 then (if x9_5.length < 17592186044416 then (seedcornref20_Depths.l2 kj55 a1 ((rd_T28 l0_1 a1).f4) (x7_5.set ((rd t211 x16_5) : Int).toNat (wrap64 ((wrap64 ((rd x7_3 (rd x9_3 0)) - t203)) + t204))) (x9_5 ++ [(rd t211 x16_5)]) (wrap64 ((wrap64 ((rd x7_3 (rd x9_3 0)) - t203)) + t204)) t211 (wrap64 (x16_5 + 1)) a0_0 l0_1) else (none)) else (seedcornref20_Depths.l2 kj55 a1 ((rd_T28 l0_1 a1).f4) x7_5 x9_5 (wrap64 ((wrap64 ((rd x7_3 (rd x9_3 0)) - t203)) + t204)) t211 (wrap64 (x16_5 + 1)) a0_0 l0_1)) else (none)) else (none)) = some (r1, r2) := by rw [if_neg (show ¬ (false = true) by decide)] at H; exact H
                                                                clear H
                                                                have H := H1
                                                                clear H1
                                                                by_cases c64 : 0 ≤ (rd t211 x16_5)
                                                                · rw [if_pos c64] at H
                                                                  have c64b0 : decide (0 ≤ (rd t211 x16_5)) = true := decide_eq_true c64
                                                                  clear c64
                                                                  by_cases c65 : (rd t211 x16_5) < (x7_5.length : Int)
                                                                  · rw [if_pos c65] at H
                                                                    have c65b0 : decide ((rd t211 x16_5) < (x7_5.length : Int)) = true := decide_eq_true c65
                                                                    clear c65
                                                                    by_cases c66 : (rd x7_5 (rd t211 x16_5)) < 0
                                                                    · rw [if_pos c66] at H
                                                                      have c66b0 : decide ((rd x7_5 (rd t211 x16_5)) < 0) = true := decide_eq_true c66
                                                                      clear c66
                                                                      obtain ⟨y218, hy218⟩ : ∃ y_ : List Int, y_ = (x7_5.set ((rd t211 x16_5) : Int).toNat (wrap64 ((wrap64 ((rd x7_3 (rd x9_3 0)) - t203)) + t204))) := ⟨_, rfl⟩
                                                                      replace H : (if x9_5.length < 17592186044416 then (seedcornref20_Depths.l2 kj55 a1 ((rd_T28 l0_1 a1).f4) y218 (x9_5 ++ [(rd t211 x16_5)]) (wrap64 ((wrap64 ((rd x7_3 (rd x9_3 0)) - t203)) + t204)) t211 (wrap64 (x16_5 + 1)) a0_0 l0_1) else (none)) = some (r1, r2) := by first | (rw [hy218]; with_reducible exact H) | (have H2_ := (Option.bind_some _ _).symm.trans H; rw [hy218]; with_reducible exact H2_) | (have H2_ := (Option.bind_some _ _).symm.trans H; with_reducible exact H2_) | with_reducible exact H | (rw [hy218]; exact H) | exact H
                                                                      have Ny218 := Aside0.mk hy218
                                                                      clear hy218
                                                                      by_cases c68 : x9_5.length < 17592186044416
                                                                      · rw [if_pos c68] at H
                                                                        have LMc68 := Aside0.mk c68
                                                                        clear c68
                                                                        obtain ⟨y219, hy219⟩ : ∃ y_ : List Int, y_ = (x9_5 ++ [(rd t211 x16_5)]) := ⟨_, rfl⟩
                                                                        replace H : (seedcornref20_Depths.l2 kj55 a1 ((rd_T28 l0_1 a1).f4) y218 y219 (wrap64 ((wrap64 ((rd x7_3 (rd x9_3 0)) - t203)) + t204)) t211 (wrap64 (x16_5 + 1)) a0_0 l0_1) = some (r1, r2) := by first | (rw [hy219]; with_reducible exact H) | (have H2_ := (Option.bind_some _ _).symm.trans H; rw [hy219]; with_reducible exact H2_) | (have H2_ := (Option.bind_some _ _).symm.trans H; with_reducible exact H2_) | with_reducible exact H | (rw [hy219]; exact H) | exact H
                                                                        have Ny219 := Aside0.mk hy219
                                                                        clear hy219
                                                                        have H' := Aside0.mk H
                                                                        clear H
                                                                        have p217 : 0 ≤ ((rd t211 x16_5) : Int) := of_decide_eq_true (by first | (with_reducible assumption) | assumption)
                                                                        have q217 : (rd t211 x16_5) < (x7_5.length : Int) := of_decide_eq_true (by first | (with_reducible assumption) | assumption)
                                                                        obtain ⟨ad217, e217, hx217_0⟩ := Kd.at_int (Kd.R_reads' HO_7.out).2.2 (rd t211 x16_5) p217 q217
                                                                        obtain rfl : (⟨go26, 0, none⟩ : Addr) = ad217 := (by injection e217)
                                                                        (first | simp only [add_plain] at hx217_0 | simp only [add_at] at hx217_0 | simp only [Addr.add, Nat.zero_add] at hx217_0 | skip)
                                                                        replace p217 := eq_true p217
                                                                        replace q217 := eq_true q217
                                                                        have p67 : 0 ≤ ((rd t211 x16_5) : Int) := of_decide_eq_true (by first | (with_reducible assumption) | assumption)
                                                                        have q67 : ((rd t211 x16_5) : Int) < ((x7_5.length : Int) : Int) := of_decide_eq_true (by first | (with_reducible assumption) | assumption)
                                                                        obtain ⟨hx67_0, hf67_0⟩ := Kd.R_celln 0 HO_7.out ((rd t211 x16_5) : Int) p67 q67
                                                                        replace p67 := eq_true p67
                                                                        replace q67 := eq_true q67
                                                                        have HP69 := Kd.R_putg HO_7.out ((rd t211 x16_5) : Int) (wrap64 ((wrap64 ((rd x7_3 (rd x9_3 0)) - t203)) + t204))
                                                                        go_wp2_with (first | ((with_reducible refine gate_store (t := 3) (p := 162) rfl ?_); refine store_event (t := 3) (p := 162) (v := ?vo_w70) (w1 := (wc.setCell ⟨go26, ((rd t211 x16_5) : Int).toNat, none⟩ (.int .i64 (wrap64 ((wrap64 ((rd x7_3 (rd x9_3 0)) - t203)) + t204))))) ?hg ?ho ?hn ?hr ?_; (case ho => rfl); (case hg => rfl); (case hn => rfl); (case hr => first | (go_simp; done) | (go_simp; rfl)); intro w70 hw; have hg : wc.grownBy w70 (some go26) := (by rw [hw]; exact HP69.2); have hp_ : Kd.R (Kd.int .i64) 3 w70 w.heap.size (fun k_ => some k_ ≠ (u9 : Value).ownBlock ∧ some k_ ≠ (.slice (some ad214) t211.length co57 : Value).ownBlock) (.slice (some ⟨go26, 0, none⟩) x7_5.length co27) y218 := (by rw [hw, Ny218.out]; exact HP69.1); clear HP69; have n0_ := Aside0.mk (hp_); have n1_ := Aside0.mk (Kd.Q_after (v := (.slice (some ⟨go26, 0, none⟩) x7_5.length co27)) (v1 := (.slice (some ⟨go26, 0, none⟩) x7_5.length co27)) (ok := (fun k_ => some k_ ≠ (.slice (some ad214) t211.length co57 : Value).ownBlock)) (by (with_reducible repeat (first | apply Kd.Q_alloc | apply Kd.Q_drewN | apply Kd.Q_drew)); exact Kd.Q_mono HO_9.out (fun _ hk => ⟨hk.2, hk.1⟩)) hg (.inl rfl)); have n2_ := Aside0.mk (Kd.R_after (v := (.slice (some ⟨go26, 0, none⟩) x7_5.length co27)) (v1 := (.slice (some ⟨go26, 0, none⟩) x7_5.length co27)) (ok := (fun k_ => some k_ ≠ (u9 : Value).ownBlock)) (by (with_reducible repeat (first | apply Kd.R_alloc | apply Kd.R_drewN | apply Kd.R_drew)); exact Kd.R_mono HO_15.out (fun _ hk => ⟨hk.2, hk.1⟩)) hg (.inl rfl)); have n3_ := Aside0.mk (blk_grown (g := gb187) (o := .cells #[.int .i64 a0_0, .slice (some ad189) l0_1.length c0_1] 31 (0, 0)) (by (with_reducible repeat (first | refine blk_drewN ?_ _ | refine blk_drew ?_ | refine blk_alloc ?_ _)); exact BK187.out) hg (Kd.R_ne HO_7.out BK187.out (by decide))); have n4_ := Aside0.mk ((by rw [hw]; exact below_set (HB.out) GB26.out : Below w.heap.size w w70)); clear HO_7; clear HO_9; clear HO_15; clear BK187; clear HB; have HO_7 := n0_; have HO_9 := n1_; have HO_15 := n2_; have BK187 := n3_; have HB := n4_; clear n0_ n1_ n2_ n3_ n4_; clear hg hw hp_) | ((with_reducible refine gate_builtin (b := .append) (xs := #[.tmp 163, .tmp 165]) rfl ?_); (try (refine gate_guard (by rfl) ?_; dsimp only)); at_builtin; refine Kd.Q_append (Kd.int .i64) (w0 := w) w.heap.size rfl (.tmp 163) (.tmp 165) 52 3 (.int .i64 0) 8 rfl Try.underlying52 info3 rfl (by decide) (by omega) u9 x9_5 (rd t211 x16_5) [.int .i64 (rd t211 x16_5)] (fun k_ => some k_ ≠ (.slice (some ⟨go26, 0, none⟩) x7_5.length co27 : Value).ownBlock ∧ some k_ ≠ (.slice (some ad214) t211.length co57 : Value).ownBlock) (fun _ => False) rfl rfl ?aP (fun _ hk => hk.elim) ?aF ?aO ?aB ?aS ?aL ?_; (case aP => exact rfl); (case aB => exact (by repeat (first | (with_reducible first | exact HB.out | apply below_alloc | apply pw_below_drewN | apply below_drew1 | refine below_set ?_ GE187.out) | exact HB.out))); (case aF => exact (fun k_ hk => ⟨Kd.fresh' (Kd.R_lt (by (with_reducible repeat (first | apply Kd.R_alloc | apply Kd.R_drewN | apply Kd.R_drew)); exact HO_7.out)) k_ hk, Kd.fresh' (Kd.R_lt (by (with_reducible repeat (first | apply Kd.R_alloc | apply Kd.R_drewN | apply Kd.R_drew)); exact HO_15.out)) k_ hk⟩)); (case aO => exact (by (with_reducible repeat (first | apply Kd.Q_alloc | apply Kd.Q_drewN | apply Kd.Q_drew)); exact Kd.Q_mono HO_9.out (fun _ hk => ⟨hk.2, hk.1⟩))); (case aS => exact (below_size (by repeat (first | (with_reducible first | exact HB.out | apply below_alloc | apply pw_below_drewN | apply below_drew1 | refine below_set ?_ GE187.out) | exact HB.out)))); (case aL => have := LMc68.out; omega); intro v220 w71 ho hb hg hat; rw [← Ny219.out] at ho; have n0_ := Aside0.mk (Kd.R_after (ok := (fun k_ => some k_ ≠ (.slice (some ad214) t211.length co57 : Value).ownBlock)) (by (with_reducible repeat (first | apply Kd.R_alloc | apply Kd.R_drewN | apply Kd.R_drew)); exact Kd.R_mono HO_7.out (fun _ hk => ⟨hk.2, hk.1⟩)) hg hat); have n1_ := Aside0.mk (Kd.R_after (ok := (fun k_ => some k_ ≠ (.slice (some ⟨go26, 0, none⟩) x7_5.length co27 : Value).ownBlock)) (by (with_reducible repeat (first | apply Kd.R_alloc | apply Kd.R_drewN | apply Kd.R_drew)); exact Kd.R_mono HO_15.out (fun _ hk => ⟨hk.2, hk.1⟩)) hg hat); have n2_ := Aside0.mk (blk_grown (g := gb187) (o := .cells #[.int .i64 a0_0, .slice (some ad189) l0_1.length c0_1] 31 (0, 0)) (by (with_reducible repeat (first | refine blk_drewN ?_ _ | refine blk_drew ?_ | refine blk_alloc ?_ _)); exact BK187.out) hg (Kd.Q_ne HO_9.out BK187.out (by decide))); have n3_ := Aside0.mk (hb); have n4_ := Aside0.mk (ho); clear HO_7; clear HO_15; clear BK187; clear HB; clear HO_9; have HO_7 := n0_; have HO_15 := n1_; have BK187 := n2_; have HB := n3_; have HO221 := n4_; clear n0_ n1_ n2_ n3_ n4_; clear ho hb hg hat))
                                                                        (try simp only [← hl7_5])
                                                                        go_roundg kj55
                                                                        case measure => have := HJ2.out; have := HK2.out; have := HK3.out; have := HJ37.out; have := HK5.out; have := HJ55.out; omega
                                                                        case rel => exact ⟨(y218), (y219), (wrap64 (x16_5 + 1)), (by first | rfl | (simp; done) | (simp [*]; done)), H', ⟨by have := HJ2.out; have := HK2.out; have := HK3.out; have := HJ37.out; have := HK5.out; have := HJ55.out; omega⟩, ⟨by (try simp only [hl7_3]); (try simp only [hl7_5]); (with_reducible repeat (first | apply Kd.R_alloc | apply Kd.R_drewN | apply Kd.R_drew)); exact Kd.R_mono HO_7.out (fun _ hk => ⟨hk.2, hk.1⟩)⟩, ⟨by (try simp only [hl7_3]); (try simp only [hl7_5]); (with_reducible repeat (first | apply Kd.Q_alloc | apply Kd.Q_drewN | apply Kd.Q_drew)); exact HO221.out⟩, ⟨by (try simp only [hl7_3]); (try simp only [hl7_5]); (with_reducible repeat (first | apply Kd.R_alloc | apply Kd.R_drewN | apply Kd.R_drew)); exact HO_15.out⟩, ⟨by (try simp only [hl7_3]); (try simp only [hl7_5]); (with_reducible repeat (first | refine blk_drewN ?_ _ | refine blk_drew ?_ | refine blk_alloc ?_ _)); exact BK187.out⟩, ⟨by repeat (first | (with_reducible first | exact HB.out | apply below_alloc | apply pw_below_drewN | apply below_drew1 | refine below_set ?_ GE187.out) | exact HB.out)⟩⟩
                                                                      · rw [if_neg c68] at H
                                                                        exact absurd H (by simp)
                                                                    · rw [if_neg c66] at H
                                                                      have c66b0 : decide ((rd x7_5 (rd t211 x16_5)) < 0) = false := decide_eq_false c66
                                                                      clear c66
                                                                      have H' := Aside0.mk H
                                                                      clear H
                                                                      have p217 : 0 ≤ ((rd t211 x16_5) : Int) := of_decide_eq_true (by first | (with_reducible assumption) | assumption)
                                                                      have q217 : (rd t211 x16_5) < (x7_5.length : Int) := of_decide_eq_true (by first | (with_reducible assumption) | assumption)
                                                                      obtain ⟨ad217, e217, hx217_0⟩ := Kd.at_int (Kd.R_reads' HO_7.out).2.2 (rd t211 x16_5) p217 q217
                                                                      obtain rfl : (⟨go26, 0, none⟩ : Addr) = ad217 := (by injection e217)
                                                                      (first | simp only [add_plain] at hx217_0 | simp only [add_at] at hx217_0 | simp only [Addr.add, Nat.zero_add] at hx217_0 | skip)
                                                                      replace p217 := eq_true p217
                                                                      replace q217 := eq_true q217
                                                                      go_wp2
                                                                      (try simp only [← hl7_5])
                                                                      go_roundg kj55
                                                                      case measure => have := HJ2.out; have := HK2.out; have := HK3.out; have := HJ37.out; have := HK5.out; have := HJ55.out; omega
                                                                      case rel => exact ⟨(x7_5), (x9_5), (wrap64 (x16_5 + 1)), (by first | rfl | (simp; done) | (simp [*]; done)), H', ⟨by have := HJ2.out; have := HK2.out; have := HK3.out; have := HJ37.out; have := HK5.out; have := HJ55.out; omega⟩, ⟨by (try simp only [hl7_3]); (try simp only [hl7_5]); (with_reducible repeat (first | apply Kd.R_alloc | apply Kd.R_drewN | apply Kd.R_drew)); exact HO_7.out⟩, ⟨by (try simp only [hl7_3]); (try simp only [hl7_5]); (with_reducible repeat (first | apply Kd.Q_alloc | apply Kd.Q_drewN | apply Kd.Q_drew)); exact HO_9.out⟩, ⟨by (try simp only [hl7_3]); (try simp only [hl7_5]); (with_reducible repeat (first | apply Kd.R_alloc | apply Kd.R_drewN | apply Kd.R_drew)); exact HO_15.out⟩, ⟨by (try simp only [hl7_3]); (try simp only [hl7_5]); (with_reducible repeat (first | refine blk_drewN ?_ _ | refine blk_drew ?_ | refine blk_alloc ?_ _)); exact BK187.out⟩, ⟨by repeat (first | (with_reducible first | exact HB.out | apply below_alloc | apply pw_below_drewN | apply below_drew1 | refine below_set ?_ GE187.out) | exact HB.out)⟩⟩
                                                                  · rw [if_neg c65] at H
                                                                    exact absurd H (by simp)
                                                                · rw [if_neg c64] at H
                                                                  exact absurd H (by simp)
                                                        · rw [if_neg c55] at H
                                                          exact absurd H (by simp)
                                                      · rw [if_neg c54] at H
                                                        have c54b0 : decide (x16_5 < (t211.length : Int)) = false := decide_eq_false c54
                                                        clear c54
                                                        have H' := Aside0.mk H
                                                        clear H
                                                        obtain ⟨Ao72, co72, eo72⟩ := Kd.R_slice HO_15.out
                                                        subst eo72
                                                        go_wp2
                                                        (try simp only [← hl7_3, ← hl7_5])
                                                        go_roundg k5
                                                        case measure => have := HJ2.out; have := HK2.out; have := HK3.out; have := HJ37.out; have := HK5.out; omega
                                                        case rel => exact ⟨(x7_5), (x9_5), H', ⟨by have := HJ2.out; have := HK2.out; have := HK3.out; have := HJ37.out; have := HK5.out; omega⟩, ⟨by (try simp only [hl7_3]); (try simp only [hl7_5]); (with_reducible repeat (first | apply Kd.R_alloc | apply Kd.R_drewN | apply Kd.R_drew)); exact Kd.R_mono HO_7.out (fun _ hk => hk.1)⟩, ⟨by (try simp only [hl7_3]); (try simp only [hl7_5]); (with_reducible repeat (first | apply Kd.Q_alloc | apply Kd.Q_drewN | apply Kd.Q_drew)); exact Kd.Q_mono HO_9.out (fun _ hk => hk.1)⟩, ⟨by (try simp only [hl7_3]); (try simp only [hl7_5]); (with_reducible repeat (first | refine blk_drewN ?_ _ | refine blk_drew ?_ | refine blk_alloc ?_ _)); exact BK187.out⟩, ⟨by repeat (first | (with_reducible first | exact HB.out | apply below_alloc | apply pw_below_drewN | apply below_drew1 | refine below_set ?_ GE187.out) | exact HB.out)⟩⟩
                                                · rw [if_neg c51] at H
                                                  exact absurd H (by simp)
                                              · rw [if_neg c50] at H
                                                exact absurd H (by simp)
                                            · rw [if_neg c49] at H
                                              exact absurd H (by simp)
                                    · rw [if_neg c36] at H
                                      exact absurd H (by simp)
                                  · rw [if_neg c35] at H
                                    exact absurd H (by simp)
                                · rw [if_neg c34] at H
                                  exact absurd H (by simp)
                              · rw [if_neg c33] at H
                                exact absurd H (by simp)
                            · rw [if_neg c32] at H
                              have c32b0 : decide (0 < (x9_3.length : Int)) = false := decide_eq_false c32
                              have c32b1 : decide (0 < x9_3.length) = false := decide_eq_false (by omega)
                              clear c32
                              simp only [Option.some.injEq, Prod.mk.injEq] at H
                              obtain ⟨rfl, rfl⟩ := H
                              obtain ⟨Ao73, co73, eo73, _⟩ := Kd.Q_slice HO_9.out
                              subst eo73
                              go_wp2
                              go_ret2
                              exact ⟨_, by first | rfl | (simp [errW_none, errW_some] <;> rfl) | (simp [*, errW_none, errW_some] <;> rfl), by (with_reducible repeat (first | apply Kd.R_alloc | apply Kd.R_drewN | apply Kd.R_drew)); exact Kd.R_mono HO_7.out (fun _ hk => trivial), by repeat (first | (with_reducible first | exact HB.out | apply below_alloc | apply pw_below_drewN | apply below_drew1 | refine below_set ?_ GE187.out) | exact HB.out)⟩
                      · rw [if_neg c25] at H
                        exact absurd H (by simp)
              · rw [if_neg c15] at H
                exact absurd H (by simp)
            · rw [if_neg c14] at H
              exact absurd H (by simp)
          · rw [if_neg c13] at H
            exact absurd H (by simp)
        · rw [if_neg c12] at H
          exact absurd H (by simp)

end Go.Proofs.Ytlngcolnjgloaaa.PStackRuns
