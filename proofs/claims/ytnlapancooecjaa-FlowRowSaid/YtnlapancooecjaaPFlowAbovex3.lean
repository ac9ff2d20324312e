-- PRINTED BY print.sh 35421559b90ae4d0a3588c463048766b98c2df88dd9212a6774a882060cdf62d: not written by this session
import Derived.Test.YtnlapancooecjaaPFlowAbovex0
import Derived.Test.YtnlapancooecjaaPFlowAbovex2
namespace Go.Proofs.Ytnlapancooecjaa.PFlowAbove
open Go.RowKit Go.Proofs.YtnlapancooecjaaW.PrintWords Go.Proofs.YtnlapancooecjaaW.PrintLast Go.Proofs.YtnlapancooecjaaW.PrintMore
attribute [local go_sem] max2_int min2_int max_two min_two max_three min_three max_four min_four   -- for this text's walks alone
set_option linter.unusedVariables false
set_option linter.unusedSimpArgs false

/-! ### seedcornref26_Above: function 18 -/
mutual
def seedcornref26_Above.l0 : Nat → List (List Int) → List Bool → List (List Bool) → Int → Option (List Int)
  | 0, _, _, _, _ => none
  | k + 1, x0, x3, x4, x5 => if x5 < (x0.length : Int) then ((seedcornref26_Without.f k x0 x5).bind fun t156 => (seedcornref26_Above.l1 k x0 x3 x4 x5 t156 ([] : List Bool) 0)) else (seedcornref26_Above.l2 k x0 x4 ([] : List Int) 0)
def seedcornref26_Above.l1 : Nat → List (List Int) → List Bool → List (List Bool) → Int → List Bool → List Bool → Int → Option (List Int)
  | 0, _, _, _, _, _, _, _ => none
  | k + 1, x0, x3, x4, x5, x6, x7, x8 => if x8 < (x0.length : Int) then (if 0 ≤ x8 then (if x8 < (x3.length : Int) then (if rdOf false x3 x8 = true then (if x5 = x8 then (if x7.length < 140737488355328 then (seedcornref26_Above.l1 k x0 x3 x4 x5 x6 (x7 ++ [true]) (wrap64 (x8 + 1))) else (none)) else (if x8 < (x6.length : Int) then (if x7.length < 140737488355328 then (seedcornref26_Above.l1 k x0 x3 x4 x5 x6 (x7 ++ [!(rdOf false x6 x8)]) (wrap64 (x8 + 1))) else (none)) else (none))) else (if x7.length < 140737488355328 then (seedcornref26_Above.l1 k x0 x3 x4 x5 x6 (x7 ++ [false]) (wrap64 (x8 + 1))) else (none))) else (none)) else (none)) else (if x4.length < 5864062014805 then (seedcornref26_Above.l0 k x0 x3 (x4 ++ [x7]) (wrap64 (x5 + 1))) else (none))
def seedcornref26_Above.l2 : Nat → List (List Int) → List (List Bool) → List Int → Int → Option (List Int)
  | 0, _, _, _, _ => none
  | k + 1, x0, x4, x9, x10 => if x10 < (x0.length : Int) then (seedcornref26_Above.l3 k x0 x4 x9 x10 (-1) 0) else (some x9)
def seedcornref26_Above.l3 : Nat → List (List Int) → List (List Bool) → List Int → Int → Int → Int → Option (List Int)
  | 0, _, _, _, _, _, _ => none
  | k + 1, x0, x4, x9, x10, x11, x12 => if x12 < (x0.length : Int) then (if x12 = x10 then (seedcornref26_Above.l3 k x0 x4 x9 x10 x11 (wrap64 (x12 + 1))) else (if 0 ≤ x12 then (if x12 < (x4.length : Int) then (if 0 ≤ x10 then (if x10 < ((rd_L3 x4 x12).length : Int) then (if rdOf false (rd_L3 x4 x12) x10 = true then (if x11 < 0 then (seedcornref26_Above.l3 k x0 x4 x9 x10 x12 (wrap64 (x12 + 1))) else (if 0 ≤ x11 then (if x11 < (x4.length : Int) then (if x12 < ((rd_L3 x4 x11).length : Int) then (if rdOf false (rd_L3 x4 x11) x12 = true then (seedcornref26_Above.l3 k x0 x4 x9 x10 x12 (wrap64 (x12 + 1))) else (seedcornref26_Above.l3 k x0 x4 x9 x10 x11 (wrap64 (x12 + 1)))) else (none)) else (none)) else (none))) else (seedcornref26_Above.l3 k x0 x4 x9 x10 x11 (wrap64 (x12 + 1)))) else (none)) else (none)) else (none)) else (none))) else (if x9.length < 17592186044416 then (seedcornref26_Above.l2 k x0 x4 (x9 ++ [x11]) (wrap64 (x10 + 1))) else (none))
end
def seedcornref26_Above.f (k : Nat) (l0 : List (List Int)) : Option (List Int) := (seedcornref26_Reach.f k l0).bind fun t153 => (seedcornref26_Above.l0 k l0 t153 ([] : List (List Bool)) 0)
theorem seedcornref26_Above.mono_l : ∀ k, (∀ y0 y1 y2 y3, LeO (seedcornref26_Above.l0 k y0 y1 y2 y3) (seedcornref26_Above.l0 (k + 1) y0 y1 y2 y3)) ∧ (∀ y0 y1 y2 y3 y4 y5 y6, LeO (seedcornref26_Above.l1 k y0 y1 y2 y3 y4 y5 y6) (seedcornref26_Above.l1 (k + 1) y0 y1 y2 y3 y4 y5 y6)) ∧ (∀ y0 y1 y2 y3, LeO (seedcornref26_Above.l2 k y0 y1 y2 y3) (seedcornref26_Above.l2 (k + 1) y0 y1 y2 y3)) ∧ (∀ y0 y1 y2 y3 y4 y5, LeO (seedcornref26_Above.l3 k y0 y1 y2 y3 y4 y5) (seedcornref26_Above.l3 (k + 1) y0 y1 y2 y3 y4 y5))
  | 0 => ⟨fun _ _ _ _ r h => by simp [seedcornref26_Above.l0] at h, fun _ _ _ _ _ _ _ r h => by simp [seedcornref26_Above.l1] at h, fun _ _ _ _ r h => by simp [seedcornref26_Above.l2] at h, fun _ _ _ _ _ _ r h => by simp [seedcornref26_Above.l3] at h⟩
  | k + 1 => by
    obtain ⟨ih0, ih1, ih2, ih3⟩ := seedcornref26_Above.mono_l k
    refine ⟨?_, ?_, ?_, ?_⟩
    · intro y0 y1 y2 y3
      unfold seedcornref26_Above.l0
      repeat' first
      | (with_reducible exact ih0 _ _ _ _)
      | (with_reducible exact ih1 _ _ _ _ _ _ _)
      | (with_reducible exact ih2 _ _ _ _)
      | (with_reducible exact ih3 _ _ _ _ _ _)
      | (with_reducible exact seedcornref26_Reach.mono _ _)
      | (with_reducible exact seedcornref26_Without.mono _ _ _)
      | (with_reducible exact LeO.refl _)
      | (with_reducible exact LeO.none _)
      | (with_reducible refine LeO.ite ?_ ?_)
      | (with_reducible refine LeO.bind ?_ (fun _ => ?_))
      | exact ih0 _ _ _ _
      | exact ih1 _ _ _ _ _ _ _
      | exact ih2 _ _ _ _
      | exact ih3 _ _ _ _ _ _
      | exact seedcornref26_Reach.mono _ _
      | exact seedcornref26_Without.mono _ _ _
      | exact LeO.none _
      | refine LeO.ite ?_ ?_
      | refine LeO.bind ?_ (fun _ => ?_)
    · intro y0 y1 y2 y3 y4 y5 y6
      unfold seedcornref26_Above.l1
      repeat' first
      | (with_reducible exact ih0 _ _ _ _)
      | (with_reducible exact ih1 _ _ _ _ _ _ _)
      | (with_reducible exact ih2 _ _ _ _)
      | (with_reducible exact ih3 _ _ _ _ _ _)
      | (with_reducible exact seedcornref26_Reach.mono _ _)
      | (with_reducible exact seedcornref26_Without.mono _ _ _)
      | (with_reducible exact LeO.refl _)
      | (with_reducible exact LeO.none _)
      | (with_reducible refine LeO.ite ?_ ?_)
      | (with_reducible refine LeO.bind ?_ (fun _ => ?_))
      | exact ih0 _ _ _ _
      | exact ih1 _ _ _ _ _ _ _
      | exact ih2 _ _ _ _
      | exact ih3 _ _ _ _ _ _
      | exact seedcornref26_Reach.mono _ _
      | exact seedcornref26_Without.mono _ _ _
      | exact LeO.none _
      | refine LeO.ite ?_ ?_
      | refine LeO.bind ?_ (fun _ => ?_)
    · intro y0 y1 y2 y3
      unfold seedcornref26_Above.l2
      repeat' first
      | (with_reducible exact ih0 _ _ _ _)
      | (with_reducible exact ih1 _ _ _ _ _ _ _)
      | (with_reducible exact ih2 _ _ _ _)
      | (with_reducible exact ih3 _ _ _ _ _ _)
      | (with_reducible exact seedcornref26_Reach.mono _ _)
      | (with_reducible exact seedcornref26_Without.mono _ _ _)
      | (with_reducible exact LeO.refl _)
      | (with_reducible exact LeO.none _)
      | (with_reducible refine LeO.ite ?_ ?_)
      | (with_reducible refine LeO.bind ?_ (fun _ => ?_))
      | exact ih0 _ _ _ _
      | exact ih1 _ _ _ _ _ _ _
      | exact ih2 _ _ _ _
      | exact ih3 _ _ _ _ _ _
      | exact seedcornref26_Reach.mono _ _
      | exact seedcornref26_Without.mono _ _ _
      | exact LeO.none _
      | refine LeO.ite ?_ ?_
      | refine LeO.bind ?_ (fun _ => ?_)
    · intro y0 y1 y2 y3 y4 y5
      unfold seedcornref26_Above.l3
      repeat' first
      | (with_reducible exact ih0 _ _ _ _)
      | (with_reducible exact ih1 _ _ _ _ _ _ _)
      | (with_reducible exact ih2 _ _ _ _)
      | (with_reducible exact ih3 _ _ _ _ _ _)
      | (with_reducible exact seedcornref26_Reach.mono _ _)
      | (with_reducible exact seedcornref26_Without.mono _ _ _)
      | (with_reducible exact LeO.refl _)
      | (with_reducible exact LeO.none _)
      | (with_reducible refine LeO.ite ?_ ?_)
      | (with_reducible refine LeO.bind ?_ (fun _ => ?_))
      | exact ih0 _ _ _ _
      | exact ih1 _ _ _ _ _ _ _
      | exact ih2 _ _ _ _
      | exact ih3 _ _ _ _ _ _
      | exact seedcornref26_Reach.mono _ _
      | exact seedcornref26_Without.mono _ _ _
      | exact LeO.none _
      | refine LeO.ite ?_ ?_
      | refine LeO.bind ?_ (fun _ => ?_)
theorem seedcornref26_Above.mono : ∀ a0 k, LeO (seedcornref26_Above.f k a0) (seedcornref26_Above.f (k + 1) a0) := by
  intro a0 k
  obtain ⟨ih0, ih1, ih2, ih3⟩ := seedcornref26_Above.mono_l k
  unfold seedcornref26_Above.f
  repeat' first
      | (with_reducible exact ih0 _ _ _ _)
      | (with_reducible exact ih1 _ _ _ _ _ _ _)
      | (with_reducible exact ih2 _ _ _ _)
      | (with_reducible exact ih3 _ _ _ _ _ _)
      | (with_reducible exact seedcornref26_Reach.mono _ _)
      | (with_reducible exact seedcornref26_Without.mono _ _ _)
      | (with_reducible exact LeO.refl _)
      | (with_reducible exact LeO.none _)
      | (with_reducible refine LeO.ite ?_ ?_)
      | (with_reducible refine LeO.bind ?_ (fun _ => ?_))
      | exact ih0 _ _ _ _
      | exact ih1 _ _ _ _ _ _ _
      | exact ih2 _ _ _ _
      | exact ih3 _ _ _ _ _ _
      | exact seedcornref26_Reach.mono _ _
      | exact seedcornref26_Without.mono _ _ _
      | exact LeO.none _
      | refine LeO.ite ?_ ?_
      | refine LeO.bind ?_ (fun _ => ?_)
set_option maxHeartbeats 8000000 in
set_option maxRecDepth 100000 in
theorem seedcornref26_Above.calls (k : Nat) (A0 : Option Addr) (c0 : Nat) (l0 : List (List Int)) (r : List Int) (w : World) (hr0 : Kd.C (Kd.slice 3 (Kd.int .i64)) w A0 l0.length l0) (hc0 : l0.length ≤ c0) (h : seedcornref26_Above.f k l0 = some r) :
    Calls Try.prog 18 #[.slice A0 l0.length c0] w fun e w' => ∃ v0_ : Value, e = .returned (v0_) ∧ Kd.R (Kd.int .i64) 3 w' w.heap.size (fun _ => True) v0_ r ∧ Below w.heap.size w w' := by
  have HR0 := Aside0.mk hr0
  have HC0 := Aside0.mk hc0
  clear hr0 hc0
  have HB := Aside0.mk (Below.refl w.heap.size w)
  have H : ((seedcornref26_Reach.f k l0).bind fun t153 => (seedcornref26_Above.l0 k l0 t153 ([] : List (List Bool)) 0)) = some r := h
  clear h
  replace H := Option.bind_eq_some_iff.mp H
  obtain ⟨t153, A20, H⟩ := H
  replace H : (seedcornref26_Above.l0 k l0 t153 ([] : List (List Bool)) 0) = some r := H
  have A2 := Aside0.mk A20
  clear A20
  have H' := Aside0.mk H
  clear H
  go_enter Try.func18, Try.ntmps18
  go_wp2_with (first | ((with_reducible refine gate_callee (f := 13) rfl ?_); refine goesL_ (some 14) rfl rfl Try.func13 (by kernel_rfl) rfl #[.slice A0 l0.length c0] rfl (by (try simp only [List.map_toArray, List.map_cons, List.map_nil]); first | done | rfl | (simp only [List.length_drop, List.length_take]; rfl)) ?_; (with_reducible refine (seedcornref26_Reach.calls k _ _ l0 t153 _ ?side1 ?side2 A2.out).mono ?_); (case side1 => repeat (first | exact HR0.out | (with_reducible refine Kd.C_alloc ?_ _) | (with_reducible refine Kd.C_drewN ?_ _) | (with_reducible refine Kd.C_drew ?_))); (case side2 => exact HC0.out); rintro e w3 ⟨v154, rfl, ho0, hb⟩; refine ⟨_, rfl, ?_⟩; have n0_ := Aside0.mk (Kd.R_lower ho0 (below_size (by repeat (first | (with_reducible first | exact HB.out | apply below_alloc | apply pw_below_drewN | apply below_drew1) | exact HB.out)))); have n1_ := Aside0.mk (below_step (by repeat (first | (with_reducible first | exact HB.out | apply below_alloc | apply pw_below_drewN | apply below_drew1) | exact HB.out)) hb); clear HB; have HO155 := n0_; have HB := n1_; clear n0_ n1_; (try clear hb); (try clear hb2); (try clear hk); (try clear hi); (try clear ho0)))
  go_loopg [4, 5] k (fun kq v4 v5 w' => ∃ (x4_1 : List (List Bool)) (x5_1 : Int), v5 = .int .i64 x5_1 ∧ Aside0 (seedcornref26_Above.l0 kq l0 t153 x4_1 x5_1 = some r) ∧ Aside0 (kq ≤ k) ∧ Aside0 (Kd.R Kd.bool 4 w' w.heap.size (fun _ => True) v154 t153) ∧ Aside0 (Kd.S (Kd.slice 4 Kd.bool) 25 w' w.heap.size (fun k_ => some k_ ≠ (v154 : Value).ownBlock) v4 x4_1) ∧ Aside0 (Below w.heap.size w w'))
  case atStart => exact ⟨(([] : List (List Bool))), (0), (by first | rfl | (simp; done) | (simp [*]; done)), H', ⟨Nat.le_refl _⟩, ⟨by (with_reducible repeat (first | apply Kd.R_alloc | apply Kd.R_drewN | apply Kd.R_drew)); exact HO155.out⟩, ⟨by first | exact Kd.S_nil _ _ _ _ _ | exact Kd.N_nil _ _ _ _ _ | exact Kd.V_nil _ _ _ _ _ | exact Kd.Q_nil _ _ _ _ _ | exact Kd.R_nil _ _ _ _ _⟩, ⟨by repeat (first | (with_reducible first | exact HB.out | apply below_alloc | apply pw_below_drewN | apply below_drew1) | exact HB.out)⟩⟩
  case round =>
    clear H'
    try clear c1
    try clear p2
    obtain ⟨x4_1, x5_1, rfl, HA, HK1, HO_3, HO_4, HB⟩ := hrel
    cases gk with
    | zero => exact absurd HA.out (by simp [seedcornref26_Above.l0])
    | succ k1 =>
      have H := HA.out
      clear HA
      simp only [seedcornref26_Above.l0] at H
      by_cases c4 : x5_1 < (l0.length : Int)
      · rw [if_pos c4] at H
        have c4b0 : decide (x5_1 < (l0.length : Int)) = true := decide_eq_true c4
        clear c4
        replace H := Option.bind_eq_some_iff.mp H
        obtain ⟨t156, A50, H⟩ := H
        replace H : (seedcornref26_Above.l1 k1 l0 t153 x4_1 x5_1 t156 ([] : List Bool) 0) = some r := H
        have A5 := Aside0.mk A50
        clear A50
        have H' := Aside0.mk H
        clear H
        go_wp2_with (first | ((with_reducible refine gate_callee (f := 23) rfl ?_); refine goesL_ (some 23) rfl rfl Try.func23 (by kernel_rfl) rfl #[.slice A0 l0.length c0, .int .i64 x5_1] rfl (by (try simp only [List.map_toArray, List.map_cons, List.map_nil]); first | done | rfl | (simp only [List.length_drop, List.length_take]; rfl)) ?_; (with_reducible refine (seedcornref26_Without.calls k1 _ _ l0 x5_1 t156 _ ?side1 ?side2 A5.out).mono ?_); (case side1 => repeat (first | exact (Kd.C_below HR0.out HB.out) | (with_reducible refine Kd.C_alloc ?_ _) | (with_reducible refine Kd.C_drewN ?_ _) | (with_reducible refine Kd.C_drew ?_))); (case side2 => exact HC0.out); rintro e w6 ⟨v157, rfl, ho0, hb⟩; refine ⟨_, rfl, ?_⟩; have n0_ := Aside0.mk (Kd.R_elder' (by (with_reducible repeat (first | apply Kd.R_alloc | apply Kd.R_drewN | apply Kd.R_drew)); exact HO_3.out) (Kd.R_base ho0) hb); have n1_ := Aside0.mk (Kd.S_elder' (by (with_reducible repeat (first | apply Kd.S_alloc | apply Kd.S_drewN | apply Kd.S_drew)); exact HO_4.out) (Kd.R_base ho0) hb); have n2_ := Aside0.mk (Kd.R_lower (Kd.R_new' ho0 (Kd.R_lt (by (with_reducible repeat (first | apply Kd.R_alloc | apply Kd.R_drewN | apply Kd.R_drew)); exact HO_3.out))) (below_size (by repeat (first | (with_reducible first | exact HB.out | apply below_alloc | apply pw_below_drewN | apply below_drew1) | exact HB.out)))); have n3_ := Aside0.mk (below_step (by repeat (first | (with_reducible first | exact HB.out | apply below_alloc | apply pw_below_drewN | apply below_drew1) | exact HB.out)) hb); clear HO_3; clear HO_4; clear HB; have HO_3 := n0_; have HO_4 := n1_; have HO158 := n2_; have HB := n3_; clear n0_ n1_ n2_ n3_; (try clear hb); (try clear hb2); (try clear hk); (try clear hi); (try clear ho0)))
        go_loopg [7, 8] k1 (fun kq v7 v8 w' => ∃ (x7_2 : List Bool) (x8_2 : Int), v8 = .int .i64 x8_2 ∧ Aside0 (seedcornref26_Above.l1 kq l0 t153 x4_1 x5_1 t156 x7_2 x8_2 = some r) ∧ Aside0 (kq ≤ k1) ∧ Aside0 (Kd.R Kd.bool 4 w' w.heap.size (fun k_ => some k_ ≠ (v157 : Value).ownBlock ∧ some k_ ≠ (v7 : Value).ownBlock) v154 t153) ∧ Aside0 (Kd.S (Kd.slice 4 Kd.bool) 25 w' w.heap.size (fun k_ => some k_ ≠ (v154 : Value).ownBlock ∧ some k_ ≠ (v157 : Value).ownBlock ∧ some k_ ≠ (v7 : Value).ownBlock) u4 x4_1) ∧ Aside0 (Kd.R Kd.bool 4 w' w.heap.size (fun k_ => some k_ ≠ (v154 : Value).ownBlock ∧ some k_ ≠ (v7 : Value).ownBlock) v157 t156) ∧ Aside0 (Kd.R Kd.bool 4 w' w.heap.size (fun k_ => some k_ ≠ (v154 : Value).ownBlock ∧ some k_ ≠ (v157 : Value).ownBlock) v7 x7_2) ∧ Aside0 (Below w.heap.size w w'))
        case atStart => exact ⟨(([] : List Bool)), (0), (by first | rfl | (simp; done) | (simp [*]; done)), H', ⟨Nat.le_refl _⟩, ⟨by (with_reducible repeat (first | apply Kd.R_alloc | apply Kd.R_drewN | apply Kd.R_drew)); exact Kd.R_mono HO_3.out (fun _ hk => ⟨hk.2, (by simp [Value.ownBlock])⟩)⟩, ⟨by (with_reducible repeat (first | apply Kd.S_alloc | apply Kd.S_drewN | apply Kd.S_drew)); exact Kd.S_mono HO_4.out (fun _ hk => ⟨hk.1, ⟨hk.2, (by simp [Value.ownBlock])⟩⟩)⟩, ⟨by (with_reducible repeat (first | apply Kd.R_alloc | apply Kd.R_drewN | apply Kd.R_drew)); exact Kd.R_mono HO158.out (fun _ hk => ⟨hk.2, (by simp [Value.ownBlock])⟩)⟩, ⟨by first | exact Kd.R_nil _ _ _ _ _ | exact Kd.N_nil _ _ _ _ _ | exact Kd.V_nil _ _ _ _ _ | exact Kd.Q_nil _ _ _ _ _ | exact Kd.S_nil _ _ _ _ _⟩, ⟨by repeat (first | (with_reducible first | exact HB.out | apply below_alloc | apply pw_below_drewN | apply below_drew1) | exact HB.out)⟩⟩
        case round =>
          clear H'
          try clear c1
          try clear c2
          try clear p2
          try clear c4
          try clear c4b0
          try clear p2
          obtain ⟨x7_2, x8_2, rfl, HA, HK2, HO_3, HO_4, HO_6, HO_7, HB⟩ := hrel
          cases gk with
          | zero => exact absurd HA.out (by simp [seedcornref26_Above.l1])
          | succ k2 =>
            have H := HA.out
            clear HA
            simp only [seedcornref26_Above.l1] at H
            by_cases c7 : x8_2 < (l0.length : Int)
            · rw [if_pos c7] at H
              have c7b0 : decide (x8_2 < (l0.length : Int)) = true := decide_eq_true c7
              clear c7
              by_cases c8 : 0 ≤ x8_2
              · rw [if_pos c8] at H
                have c8b0 : decide (0 ≤ x8_2) = true := decide_eq_true c8
                clear c8
                by_cases c9 : x8_2 < (t153.length : Int)
                · rw [if_pos c9] at H
                  have c9b0 : decide (x8_2 < (t153.length : Int)) = true := decide_eq_true c9
                  clear c9
                  obtain ⟨bq10, hbq10⟩ : ∃ b_ : Bool, b_ = (rdOf false t153 x8_2) := ⟨_, rfl⟩
                  replace H : (if bq10 = true then (if x5_1 = x8_2 then (if x7_2.length < 140737488355328 then (seedcornref26_Above.l1 k2 l0 t153 x4_1 x5_1 t156 (x7_2 ++ [true]) (wrap64 (x8_2 + 1))) else (none)) else (if x8_2 < (t156.length : Int) then (if x7_2.length < 140737488355328 then (seedcornref26_Above.l1 k2 l0 t153 x4_1 x5_1 t156 (x7_2 ++ [!(rdOf false t156 x8_2)]) (wrap64 (x8_2 + 1))) else (none)) else (none))) else (if x7_2.length < 140737488355328 then (seedcornref26_Above.l1 k2 l0 t153 x4_1 x5_1 t156 (x7_2 ++ [false]) (wrap64 (x8_2 + 1))) else (none))) = some r := by rw [← hbq10] at H; exact H
                  have Nbq10 := Aside0.mk hbq10
                  clear hbq10
                  by_cases c11 : bq10 = true
                  · subst c11
                    have H1 : (if x5_1 = x8_2 then (if x7_2.length < 140737488355328 then (seedcornref26_Above.l1 k2 l0 t153 x4_1 x5_1 t156 (x7_2 ++ [true]) (wrap64 (x8_2 + 1))) else (none)) else (if x8_2 < (t156.length : Int) then (if x7_2.length < 140737488355328 then (seedcornref26_Above.l1 k2 l0 t153 x4_1 x5_1 t156 (x7_2 ++ [!(rdOf false t156 x8_2)]) (wrap64 (x8_2 + 1))) else (none)) else (none))) = some r := by rw [if_pos rfl] at H; exact H
                    clear H
                    have H := H1
                    clear H1
                    by_cases c12 : x5_1 = x8_2
                    · rw [if_pos c12] at H
                      have c12b0 : (x5_1 == x8_2) = true := beq_iff_eq.mpr c12
                      have c12b1 : (x5_1 != x8_2) = false := bne_eq_false_iff_eq.mpr c12
                      clear c12
                      by_cases c13 : x7_2.length < 140737488355328
                      · rw [if_pos c13] at H
                        have LMc13 := Aside0.mk c13
                        clear c13
                        obtain ⟨y160, hy160⟩ : ∃ y_ : List Bool, y_ = (x7_2 ++ [true]) := ⟨_, rfl⟩
                        replace H : (seedcornref26_Above.l1 k2 l0 t153 x4_1 x5_1 t156 y160 (wrap64 (x8_2 + 1))) = some r := by first | (rw [hy160]; with_reducible exact H) | (have H2_ := (Option.bind_some _ _).symm.trans H; rw [hy160]; with_reducible exact H2_) | (have H2_ := (Option.bind_some _ _).symm.trans H; with_reducible exact H2_) | with_reducible exact H | (rw [hy160]; exact H) | exact H
                        have Ny160 := Aside0.mk hy160
                        clear hy160
                        have H' := Aside0.mk H
                        clear H
                        obtain ⟨Ao14, co14, eo14⟩ := Kd.R_slice HO_3.out
                        subst eo14
                        have p159 : 0 ≤ (x8_2 : Int) := of_decide_eq_true (by first | (with_reducible assumption) | assumption)
                        have q159 : x8_2 < (t153.length : Int) := of_decide_eq_true (by first | (with_reducible assumption) | assumption)
                        obtain ⟨ad159, e159, hx159_0⟩ := Kd.at_bool (Kd.R_reads' HO_3.out).2.2 x8_2 p159 q159
                        (try rw [← Nbq10.out] at hx159_0)
                        cases e159
                        replace p159 := eq_true p159
                        replace q159 := eq_true q159
                        go_wp2_with (first | ((with_reducible refine gate_builtin (b := .append) (xs := #[.tmp 30, .tmp 47]) rfl ?_); at_builtin; refine Kd.R_append Kd.bool (w0 := w) w.heap.size rfl (.tmp 30) (.tmp 47) 25 4 (.bool false) 1 rfl Try.underlying25 info4 rfl (by decide) (by omega) u7 x7_2 true [.bool true] (fun k_ => some k_ ≠ (.slice (some ad159) t153.length co14 : Value).ownBlock ∧ some k_ ≠ (v157 : Value).ownBlock) (fun _ => False) rfl rfl ?aP (fun _ hk => hk.elim) ?aF ?aO ?aB ?aS ?aL ?_; (case aP => exact rfl); (case aB => exact (by repeat (first | (with_reducible first | exact HB.out | apply below_alloc | apply pw_below_drewN | apply below_drew1) | exact HB.out))); (case aF => exact (fun k_ hk => ⟨Kd.fresh' (Kd.R_lt (by (with_reducible repeat (first | apply Kd.R_alloc | apply Kd.R_drewN | apply Kd.R_drew)); exact HO_3.out)) k_ hk, Kd.fresh' (Kd.R_lt (by (with_reducible repeat (first | apply Kd.R_alloc | apply Kd.R_drewN | apply Kd.R_drew)); exact HO_6.out)) k_ hk⟩)); (case aO => exact (by (with_reducible repeat (first | apply Kd.R_alloc | apply Kd.R_drewN | apply Kd.R_drew)); exact HO_7.out)); (case aS => exact (below_size (by repeat (first | (with_reducible first | exact HB.out | apply below_alloc | apply pw_below_drewN | apply below_drew1) | exact HB.out)))); (case aL => have := LMc13.out; omega); intro v161 w15 ho hb hg hat; rw [← Ny160.out] at ho; have n0_ := Aside0.mk (Kd.R_after (ok := (fun k_ => some k_ ≠ (v157 : Value).ownBlock)) (by (with_reducible repeat (first | apply Kd.R_alloc | apply Kd.R_drewN | apply Kd.R_drew)); exact HO_3.out) hg hat); have n1_ := Aside0.mk (Kd.S_after (ok := (fun k_ => some k_ ≠ (.slice (some ad159) t153.length co14 : Value).ownBlock ∧ some k_ ≠ (v157 : Value).ownBlock)) (by (with_reducible repeat (first | apply Kd.S_alloc | apply Kd.S_drewN | apply Kd.S_drew)); exact Kd.S_mono HO_4.out (fun _ hk => ⟨⟨hk.1, hk.2.1⟩, hk.2.2⟩)) hg hat); have n2_ := Aside0.mk (Kd.R_after (ok := (fun k_ => some k_ ≠ (.slice (some ad159) t153.length co14 : Value).ownBlock)) (by (with_reducible repeat (first | apply Kd.R_alloc | apply Kd.R_drewN | apply Kd.R_drew)); exact HO_6.out) hg hat); have n3_ := Aside0.mk (hb); have n4_ := Aside0.mk (ho); clear HO_3; clear HO_4; clear HO_6; clear HB; clear HO_7; have HO_3 := n0_; have HO_4 := n1_; have HO_6 := n2_; have HB := n3_; have HO162 := n4_; clear n0_ n1_ n2_ n3_ n4_; clear ho hb hg hat))
                        go_roundg k2
                        case measure => have := HK1.out; have := HK2.out; omega
                        case rel => exact ⟨(y160), (wrap64 (x8_2 + 1)), (by first | rfl | (simp; done) | (simp [*]; done)), H', ⟨by have := HK1.out; have := HK2.out; omega⟩, ⟨by (with_reducible repeat (first | apply Kd.R_alloc | apply Kd.R_drewN | apply Kd.R_drew)); exact HO_3.out⟩, ⟨by (with_reducible repeat (first | apply Kd.S_alloc | apply Kd.S_drewN | apply Kd.S_drew)); exact Kd.S_mono HO_4.out (fun _ hk => ⟨hk.1.1, ⟨hk.1.2, hk.2⟩⟩)⟩, ⟨by (with_reducible repeat (first | apply Kd.R_alloc | apply Kd.R_drewN | apply Kd.R_drew)); exact HO_6.out⟩, ⟨by (with_reducible repeat (first | apply Kd.R_alloc | apply Kd.R_drewN | apply Kd.R_drew)); exact HO162.out⟩, ⟨by repeat (first | (with_reducible first | exact HB.out | apply below_alloc | apply pw_below_drewN | apply below_drew1) | exact HB.out)⟩⟩
                      · rw [if_neg c13] at H
                        exact absurd H (by simp)
                    · rw [if_neg c12] at H
                      have c12b0 : (x5_1 == x8_2) = false := beq_eq_false_iff_ne.mpr c12
                      have c12b1 : (x5_1 != x8_2) = true := bne_iff_ne.mpr c12
                      by_cases c16 : x8_2 < (t156.length : Int)
                      · rw [if_pos c16] at H
                        have c16b0 : decide (x8_2 < (t156.length : Int)) = true := decide_eq_true c16
                        clear c16
                        by_cases c17 : x7_2.length < 140737488355328
                        · rw [if_pos c17] at H
                          have LMc17 := Aside0.mk c17
                          clear c17
                          obtain ⟨y164, hy164⟩ : ∃ y_ : List Bool, y_ = (x7_2 ++ [!(rdOf false t156 x8_2)]) := ⟨_, rfl⟩
                          replace H : (seedcornref26_Above.l1 k2 l0 t153 x4_1 x5_1 t156 y164 (wrap64 (x8_2 + 1))) = some r := by first | (rw [hy164]; with_reducible exact H) | (have H2_ := (Option.bind_some _ _).symm.trans H; rw [hy164]; with_reducible exact H2_) | (have H2_ := (Option.bind_some _ _).symm.trans H; with_reducible exact H2_) | with_reducible exact H | (rw [hy164]; exact H) | exact H
                          have Ny164 := Aside0.mk hy164
                          clear hy164
                          have H' := Aside0.mk H
                          clear H
                          obtain ⟨Ao18, co18, eo18⟩ := Kd.R_slice HO_3.out
                          subst eo18
                          have p159 : 0 ≤ (x8_2 : Int) := of_decide_eq_true (by first | (with_reducible assumption) | assumption)
                          have q159 : x8_2 < (t153.length : Int) := of_decide_eq_true (by first | (with_reducible assumption) | assumption)
                          obtain ⟨ad159, e159, hx159_0⟩ := Kd.at_bool (Kd.R_reads' HO_3.out).2.2 x8_2 p159 q159
                          (try rw [← Nbq10.out] at hx159_0)
                          cases e159
                          replace p159 := eq_true p159
                          replace q159 := eq_true q159
                          obtain ⟨Ao19, co19, eo19⟩ := Kd.R_slice HO_6.out
                          subst eo19
                          have p163 : 0 ≤ (x8_2 : Int) := of_decide_eq_true (by first | (with_reducible assumption) | assumption)
                          have q163 : x8_2 < (t156.length : Int) := of_decide_eq_true (by first | (with_reducible assumption) | assumption)
                          obtain ⟨ad163, e163, hx163_0⟩ := Kd.at_bool (Kd.R_reads' HO_6.out).2.2 x8_2 p163 q163
                          (try rw [← Nbq10.out] at hx163_0)
                          cases e163
                          replace p163 := eq_true p163
                          replace q163 := eq_true q163
                          go_wp2_with (first | ((with_reducible refine gate_builtin (b := .append) (xs := #[.tmp 30, .tmp 47]) rfl ?_); at_builtin; refine Kd.R_append Kd.bool (w0 := w) w.heap.size rfl (.tmp 30) (.tmp 47) 25 4 (.bool false) 1 rfl Try.underlying25 info4 rfl (by decide) (by omega) u7 x7_2 (!(rdOf false t156 x8_2)) [.bool (!(rdOf false t156 x8_2))] (fun k_ => some k_ ≠ (.slice (some ad159) t153.length co18 : Value).ownBlock ∧ some k_ ≠ (.slice (some ad163) t156.length co19 : Value).ownBlock) (fun _ => False) rfl rfl ?aP (fun _ hk => hk.elim) ?aF ?aO ?aB ?aS ?aL ?_; (case aP => exact rfl); (case aB => exact (by repeat (first | (with_reducible first | exact HB.out | apply below_alloc | apply pw_below_drewN | apply below_drew1) | exact HB.out))); (case aF => exact (fun k_ hk => ⟨Kd.fresh' (Kd.R_lt (by (with_reducible repeat (first | apply Kd.R_alloc | apply Kd.R_drewN | apply Kd.R_drew)); exact HO_3.out)) k_ hk, Kd.fresh' (Kd.R_lt (by (with_reducible repeat (first | apply Kd.R_alloc | apply Kd.R_drewN | apply Kd.R_drew)); exact HO_6.out)) k_ hk⟩)); (case aO => exact (by (with_reducible repeat (first | apply Kd.R_alloc | apply Kd.R_drewN | apply Kd.R_drew)); exact HO_7.out)); (case aS => exact (below_size (by repeat (first | (with_reducible first | exact HB.out | apply below_alloc | apply pw_below_drewN | apply below_drew1) | exact HB.out)))); (case aL => have := LMc17.out; omega); intro v165 w20 ho hb hg hat; rw [← Ny164.out] at ho; have n0_ := Aside0.mk (Kd.R_after (ok := (fun k_ => some k_ ≠ (.slice (some ad163) t156.length co19 : Value).ownBlock)) (by (with_reducible repeat (first | apply Kd.R_alloc | apply Kd.R_drewN | apply Kd.R_drew)); exact HO_3.out) hg hat); have n1_ := Aside0.mk (Kd.S_after (ok := (fun k_ => some k_ ≠ (.slice (some ad159) t153.length co18 : Value).ownBlock ∧ some k_ ≠ (.slice (some ad163) t156.length co19 : Value).ownBlock)) (by (with_reducible repeat (first | apply Kd.S_alloc | apply Kd.S_drewN | apply Kd.S_drew)); exact Kd.S_mono HO_4.out (fun _ hk => ⟨⟨hk.1, hk.2.1⟩, hk.2.2⟩)) hg hat); have n2_ := Aside0.mk (Kd.R_after (ok := (fun k_ => some k_ ≠ (.slice (some ad159) t153.length co18 : Value).ownBlock)) (by (with_reducible repeat (first | apply Kd.R_alloc | apply Kd.R_drewN | apply Kd.R_drew)); exact HO_6.out) hg hat); have n3_ := Aside0.mk (hb); have n4_ := Aside0.mk (ho); clear HO_3; clear HO_4; clear HO_6; clear HB; clear HO_7; have HO_3 := n0_; have HO_4 := n1_; have HO_6 := n2_; have HB := n3_; have HO166 := n4_; clear n0_ n1_ n2_ n3_ n4_; clear ho hb hg hat))
                          go_roundg k2
                          case measure => have := HK1.out; have := HK2.out; omega
                          case rel => exact ⟨(y164), (wrap64 (x8_2 + 1)), (by first | rfl | (simp; done) | (simp [*]; done)), H', ⟨by have := HK1.out; have := HK2.out; omega⟩, ⟨by (with_reducible repeat (first | apply Kd.R_alloc | apply Kd.R_drewN | apply Kd.R_drew)); exact HO_3.out⟩, ⟨by (with_reducible repeat (first | apply Kd.S_alloc | apply Kd.S_drewN | apply Kd.S_drew)); exact Kd.S_mono HO_4.out (fun _ hk => ⟨hk.1.1, ⟨hk.1.2, hk.2⟩⟩)⟩, ⟨by (with_reducible repeat (first | apply Kd.R_alloc | apply Kd.R_drewN | apply Kd.R_drew)); exact HO_6.out⟩, ⟨by (with_reducible repeat (first | apply Kd.R_alloc | apply Kd.R_drewN | apply Kd.R_drew)); exact HO166.out⟩, ⟨by repeat (first | (with_reducible first | exact HB.out | apply below_alloc | apply pw_below_drewN | apply below_drew1) | exact HB.out)⟩⟩
                        · rw [if_neg c17] at H
                          exact absurd H (by simp)
                      · rw [if_neg c16] at H
                        exact absurd H (by simp)
                  · replace c11 := Bool.eq_false_iff.mpr c11
                    subst c11
                    have H1 : (if x7_2.length < 140737488355328 then (seedcornref26_Above.l1 k2 l0 t153 x4_1 x5_1 t156 (x7_2 ++ [false]) (wrap64 (x8_2 + 1))) else (none)) = some r := by rw [if_neg (show ¬ (false = true) by decide)] at H; exact H
                    clear H
                    have H := H1
                    clear H1
                    by_cases c21 : x7_2.length < 140737488355328
                    · rw [if_pos c21] at H
                      have LMc21 := Aside0.mk c21
                      clear c21
                      obtain ⟨y167, hy167⟩ : ∃ y_ : List Bool, y_ = (x7_2 ++ [false]) := ⟨_, rfl⟩
                      replace H : (seedcornref26_Above.l1 k2 l0 t153 x4_1 x5_1 t156 y167 (wrap64 (x8_2 + 1))) = some r := by first | (rw [hy167]; with_reducible exact H) | (have H2_ := (Option.bind_some _ _).symm.trans H; rw [hy167]; with_reducible exact H2_) | (have H2_ := (Option.bind_some _ _).symm.trans H; with_reducible exact H2_) | with_reducible exact H | (rw [hy167]; exact H) | exact H
                      have Ny167 := Aside0.mk hy167
                      clear hy167
                      have H' := Aside0.mk H
                      clear H
                      obtain ⟨Ao22, co22, eo22⟩ := Kd.R_slice HO_3.out
                      subst eo22
                      have p159 : 0 ≤ (x8_2 : Int) := of_decide_eq_true (by first | (with_reducible assumption) | assumption)
                      have q159 : x8_2 < (t153.length : Int) := of_decide_eq_true (by first | (with_reducible assumption) | assumption)
                      obtain ⟨ad159, e159, hx159_0⟩ := Kd.at_bool (Kd.R_reads' HO_3.out).2.2 x8_2 p159 q159
                      (try rw [← Nbq10.out] at hx159_0)
                      cases e159
                      replace p159 := eq_true p159
                      replace q159 := eq_true q159
                      go_wp2_with (first | ((with_reducible refine gate_builtin (b := .append) (xs := #[.tmp 30, .tmp 47]) rfl ?_); at_builtin; refine Kd.R_append Kd.bool (w0 := w) w.heap.size rfl (.tmp 30) (.tmp 47) 25 4 (.bool false) 1 rfl Try.underlying25 info4 rfl (by decide) (by omega) u7 x7_2 false [.bool false] (fun k_ => some k_ ≠ (.slice (some ad159) t153.length co22 : Value).ownBlock ∧ some k_ ≠ (v157 : Value).ownBlock) (fun _ => False) rfl rfl ?aP (fun _ hk => hk.elim) ?aF ?aO ?aB ?aS ?aL ?_; (case aP => exact rfl); (case aB => exact (by repeat (first | (with_reducible first | exact HB.out | apply below_alloc | apply pw_below_drewN | apply below_drew1) | exact HB.out))); (case aF => exact (fun k_ hk => ⟨Kd.fresh' (Kd.R_lt (by (with_reducible repeat (first | apply Kd.R_alloc | apply Kd.R_drewN | apply Kd.R_drew)); exact HO_3.out)) k_ hk, Kd.fresh' (Kd.R_lt (by (with_reducible repeat (first | apply Kd.R_alloc | apply Kd.R_drewN | apply Kd.R_drew)); exact HO_6.out)) k_ hk⟩)); (case aO => exact (by (with_reducible repeat (first | apply Kd.R_alloc | apply Kd.R_drewN | apply Kd.R_drew)); exact HO_7.out)); (case aS => exact (below_size (by repeat (first | (with_reducible first | exact HB.out | apply below_alloc | apply pw_below_drewN | apply below_drew1) | exact HB.out)))); (case aL => have := LMc21.out; omega); intro v168 w23 ho hb hg hat; rw [← Ny167.out] at ho; have n0_ := Aside0.mk (Kd.R_after (ok := (fun k_ => some k_ ≠ (v157 : Value).ownBlock)) (by (with_reducible repeat (first | apply Kd.R_alloc | apply Kd.R_drewN | apply Kd.R_drew)); exact HO_3.out) hg hat); have n1_ := Aside0.mk (Kd.S_after (ok := (fun k_ => some k_ ≠ (.slice (some ad159) t153.length co22 : Value).ownBlock ∧ some k_ ≠ (v157 : Value).ownBlock)) (by (with_reducible repeat (first | apply Kd.S_alloc | apply Kd.S_drewN | apply Kd.S_drew)); exact Kd.S_mono HO_4.out (fun _ hk => ⟨⟨hk.1, hk.2.1⟩, hk.2.2⟩)) hg hat); have n2_ := Aside0.mk (Kd.R_after (ok := (fun k_ => some k_ ≠ (.slice (some ad159) t153.length co22 : Value).ownBlock)) (by (with_reducible repeat (first | apply Kd.R_alloc | apply Kd.R_drewN | apply Kd.R_drew)); exact HO_6.out) hg hat); have n3_ := Aside0.mk (hb); have n4_ := Aside0.mk (ho); clear HO_3; clear HO_4; clear HO_6; clear HB; clear HO_7; have HO_3 := n0_; have HO_4 := n1_; have HO_6 := n2_; have HB := n3_; have HO169 := n4_; clear n0_ n1_ n2_ n3_ n4_; clear ho hb hg hat))
                      go_roundg k2
                      case measure => have := HK1.out; have := HK2.out; omega
                      case rel => exact ⟨(y167), (wrap64 (x8_2 + 1)), (by first | rfl | (simp; done) | (simp [*]; done)), H', ⟨by have := HK1.out; have := HK2.out; omega⟩, ⟨by (with_reducible repeat (first | apply Kd.R_alloc | apply Kd.R_drewN | apply Kd.R_drew)); exact HO_3.out⟩, ⟨by (with_reducible repeat (first | apply Kd.S_alloc | apply Kd.S_drewN | apply Kd.S_drew)); exact Kd.S_mono HO_4.out (fun _ hk => ⟨hk.1.1, ⟨hk.1.2, hk.2⟩⟩)⟩, ⟨by (with_reducible repeat (first | apply Kd.R_alloc | apply Kd.R_drewN | apply Kd.R_drew)); exact HO_6.out⟩, ⟨by (with_reducible repeat (first | apply Kd.R_alloc | apply Kd.R_drewN | apply Kd.R_drew)); exact HO169.out⟩, ⟨by repeat (first | (with_reducible first | exact HB.out | apply below_alloc | apply pw_below_drewN | apply below_drew1) | exact HB.out)⟩⟩
                    · rw [if_neg c21] at H
                      exact absurd H (by simp)
                · rw [if_neg c9] at H
                  exact absurd H (by simp)
              · rw [if_neg c8] at H
                exact absurd H (by simp)
            · rw [if_neg c7] at H
              have c7b0 : decide (x8_2 < (l0.length : Int)) = false := decide_eq_false c7
              clear c7
              by_cases c24 : x4_1.length < 5864062014805
              · rw [if_pos c24] at H
                have LMc24 := Aside0.mk c24
                clear c24
                obtain ⟨y170, hy170⟩ : ∃ y_ : List (List Bool), y_ = (x4_1 ++ [x7_2]) := ⟨_, rfl⟩
                replace H : (seedcornref26_Above.l0 k2 l0 t153 y170 (wrap64 (x5_1 + 1))) = some r := by first | (rw [hy170]; with_reducible exact H) | (have H2_ := (Option.bind_some _ _).symm.trans H; rw [hy170]; with_reducible exact H2_) | (have H2_ := (Option.bind_some _ _).symm.trans H; with_reducible exact H2_) | with_reducible exact H | (rw [hy170]; exact H) | exact H
                have Ny170 := Aside0.mk hy170
                clear hy170
                have H' := Aside0.mk H
                clear H
                obtain ⟨Ao26, co26, eo26⟩ := Kd.R_slice HO_7.out
                subst eo26
                go_wp2_with (first | ((with_reducible refine gate_builtin (b := .append) (xs := #[.tmp 49, .tmp 51]) rfl ?_); at_builtin; refine Kd.S_append (Kd.slice 4 Kd.bool) (w0 := w) w.heap.size rfl (.tmp 49) (.tmp 51) 42 25 (.slice none 0 0) 24 rfl Try.underlying42 info25 rfl (by decide) (by omega) u4 x4_1 x7_2 [.slice Ao26 x7_2.length co26] (fun k_ => some k_ ≠ (v154 : Value).ownBlock ∧ some k_ ≠ (v157 : Value).ownBlock) (fun k_ => some k_ = (.slice Ao26 x7_2.length co26 : Value).ownBlock) rfl rfl ?aP (fun k_ hk_ => ((Kd.R_mono (ok' := fun k_ => ((fun k_ => some k_ ≠ (v154 : Value).ownBlock ∧ some k_ ≠ (v157 : Value).ownBlock)) k_ ∧ some k_ ≠ (u4 : Value).ownBlock) (Kd.R_apart' (HO_7.out) (Kd.S_typed HO_4.out) (by decide)) (fun k_ hk => ⟨⟨hk.1.1, hk.1.2⟩, hk.2⟩))).1 k_ hk_.symm) ?aF ?aO ?aB ?aS ?aL ?_; (case aP => exact Kd.M_row (Kd.R_mono (Kd.R_tight rfl (Kd.R_mono (ok' := fun k_ => ((fun k_ => some k_ ≠ (v154 : Value).ownBlock ∧ some k_ ≠ (v157 : Value).ownBlock)) k_ ∧ some k_ ≠ (u4 : Value).ownBlock) (Kd.R_apart' (HO_7.out) (Kd.S_typed HO_4.out) (by decide)) (fun k_ hk => ⟨⟨hk.1.1, hk.1.2⟩, hk.2⟩))) (fun _ h_ => h_))); (case aB => exact (by repeat (first | (with_reducible first | exact HB.out | apply below_alloc | apply pw_below_drewN | apply below_drew1) | exact HB.out))); (case aF => exact (fun k_ hk => ⟨Kd.fresh' (Kd.R_lt (by (with_reducible repeat (first | apply Kd.R_alloc | apply Kd.R_drewN | apply Kd.R_drew)); exact HO_3.out)) k_ hk, Kd.fresh' (Kd.R_lt (by (with_reducible repeat (first | apply Kd.R_alloc | apply Kd.R_drewN | apply Kd.R_drew)); exact HO_6.out)) k_ hk⟩)); (case aO => exact (by (with_reducible repeat (first | apply Kd.S_alloc | apply Kd.S_drewN | apply Kd.S_drew)); exact Kd.S_mono HO_4.out (fun k_ hk => ⟨⟨hk.1, hk.2.1⟩, fun e_ => hk.2.2 e_⟩))); (case aS => exact (below_size (by repeat (first | (with_reducible first | exact HB.out | apply below_alloc | apply pw_below_drewN | apply below_drew1) | exact HB.out)))); (case aL => have := LMc24.out; omega); intro v171 w25 ho hb hg hat; rw [← Ny170.out] at ho; have n0_ := Aside0.mk (Kd.R_over' (by (with_reducible repeat (first | apply Kd.R_alloc | apply Kd.R_drewN | apply Kd.R_drew)); exact HO_3.out) (Kd.S_typed (by (with_reducible repeat (first | apply Kd.S_alloc | apply Kd.S_drewN | apply Kd.S_drew)); exact HO_4.out)) (by decide) hg); have n1_ := Aside0.mk (Kd.R_over' (by (with_reducible repeat (first | apply Kd.R_alloc | apply Kd.R_drewN | apply Kd.R_drew)); exact HO_6.out) (Kd.S_typed (by (with_reducible repeat (first | apply Kd.S_alloc | apply Kd.S_drewN | apply Kd.S_drew)); exact HO_4.out)) (by decide) hg); have n2_ := Aside0.mk (hb); have n3_ := Aside0.mk (ho); clear HO_3; clear HO_6; clear HB; clear HO_4; clear HO_7; have HO_3 := n0_; have HO_6 := n1_; have HB := n2_; have HO172 := n3_; clear n0_ n1_ n2_ n3_; clear ho hb hg hat))
                go_roundg k2
                case measure => have := HK1.out; have := HK2.out; omega
                case rel => exact ⟨(y170), (wrap64 (x5_1 + 1)), (by first | rfl | (simp; done) | (simp [*]; done)), H', ⟨by have := HK1.out; have := HK2.out; omega⟩, ⟨by (with_reducible repeat (first | apply Kd.R_alloc | apply Kd.R_drewN | apply Kd.R_drew)); exact Kd.R_mono HO_3.out (fun _ hk => trivial)⟩, ⟨by (with_reducible repeat (first | apply Kd.S_alloc | apply Kd.S_drewN | apply Kd.S_drew)); exact Kd.S_mono HO172.out (fun _ hk => hk.1)⟩, ⟨by repeat (first | (with_reducible first | exact HB.out | apply below_alloc | apply pw_below_drewN | apply below_drew1) | exact HB.out)⟩⟩
              · rw [if_neg c24] at H
                exact absurd H (by simp)
      · rw [if_neg c4] at H
        have c4b0 : decide (x5_1 < (l0.length : Int)) = false := decide_eq_false c4
        clear c4
        have H' := Aside0.mk H
        clear H
        go_wp2
        go_loopg [9, 10] k1 (fun kq v9 v10 w' => ∃ (x9_2 : List Int) (x10_2 : Int), v10 = .int .i64 x10_2 ∧ Aside0 (seedcornref26_Above.l2 kq l0 x4_1 x9_2 x10_2 = some r) ∧ Aside0 (kq ≤ k1) ∧ Aside0 (Kd.S (Kd.slice 4 Kd.bool) 25 w' w.heap.size (fun _ => True) u4 x4_1) ∧ Aside0 (Kd.R (Kd.int .i64) 3 w' w.heap.size (fun _ => True) v9 x9_2) ∧ Aside0 (Below w.heap.size w w'))
        case atStart => exact ⟨(([] : List Int)), (0), (by first | rfl | (simp; done) | (simp [*]; done)), H', ⟨Nat.le_refl _⟩, ⟨by (with_reducible repeat (first | apply Kd.S_alloc | apply Kd.S_drewN | apply Kd.S_drew)); exact Kd.S_mono HO_4.out (fun _ hk => trivial)⟩, ⟨by first | exact Kd.R_nil _ _ _ _ _ | exact Kd.N_nil _ _ _ _ _ | exact Kd.V_nil _ _ _ _ _ | exact Kd.Q_nil _ _ _ _ _ | exact Kd.S_nil _ _ _ _ _⟩, ⟨by repeat (first | (with_reducible first | exact HB.out | apply below_alloc | apply pw_below_drewN | apply below_drew1) | exact HB.out)⟩⟩
        case round =>
          clear H'
          try clear c1
          try clear p1
          try clear q1
          try clear hx1
          try clear c2
          try clear p2
          try clear c4
          try clear c4b0
          try clear p6
          try clear c7
          try clear c7b0
          try clear c8
          try clear c8b0
          try clear c9
          try clear c9b0
          try clear q10
          try clear c11
          try clear c12
          try clear c12b0
          try clear c12b1
          try clear c13
          try clear p15
          try clear q15
          try clear hx15
          try clear c16
          try clear c16b0
          try clear p16
          try clear q16
          try clear hx16
          try clear c17
          try clear c18
          try clear c21
          try clear c23
          try clear c24
          try clear hx159_0
          try clear hx163_0
          try clear p159
          try clear p163
          try clear p2
          try clear q159
          try clear q163
          obtain ⟨x9_2, x10_2, rfl, HA, HK2, HO_4, HO_9, HB⟩ := hrel
          cases gk with
          | zero => exact absurd HA.out (by simp [seedcornref26_Above.l2])
          | succ k2 =>
            have H := HA.out
            clear HA
            simp only [seedcornref26_Above.l2] at H
            by_cases c27 : x10_2 < (l0.length : Int)
            · rw [if_pos c27] at H
              have c27b0 : decide (x10_2 < (l0.length : Int)) = true := decide_eq_true c27
              clear c27
              have H' := Aside0.mk H
              clear H
              go_wp2
              go_loopg [11, 12] k2 (fun kq v11 v12 w' => ∃ (x11_3 : Int) (x12_3 : Int), v11 = .int .i64 x11_3 ∧ v12 = .int .i64 x12_3 ∧ Aside0 (seedcornref26_Above.l3 kq l0 x4_1 x9_2 x10_2 x11_3 x12_3 = some r) ∧ Aside0 (kq ≤ k2) ∧ Aside0 (Kd.S (Kd.slice 4 Kd.bool) 25 w' w.heap.size (fun _ => True) u4 x4_1) ∧ Aside0 (Kd.R (Kd.int .i64) 3 w' w.heap.size (fun _ => True) u9 x9_2) ∧ Aside0 (Below w.heap.size w w'))
              case atStart => exact ⟨((-1)), (0), (by first | rfl | (simp; done) | (simp [*]; done)), (by first | rfl | (simp; done) | (simp [*]; done)), H', ⟨Nat.le_refl _⟩, ⟨by (with_reducible repeat (first | apply Kd.S_alloc | apply Kd.S_drewN | apply Kd.S_drew)); exact HO_4.out⟩, ⟨by (with_reducible repeat (first | apply Kd.R_alloc | apply Kd.R_drewN | apply Kd.R_drew)); exact HO_9.out⟩, ⟨by repeat (first | (with_reducible first | exact HB.out | apply below_alloc | apply pw_below_drewN | apply below_drew1) | exact HB.out)⟩⟩
              case round =>
                clear H'
                try clear c1
                try clear p1
                try clear q1
                try clear hx1
                try clear c2
                try clear p2
                try clear c4
                try clear c4b0
                try clear p6
                try clear c7
                try clear c7b0
                try clear c8
                try clear c8b0
                try clear c9
                try clear c9b0
                try clear q10
                try clear c11
                try clear c12
                try clear c12b0
                try clear c12b1
                try clear c13
                try clear p15
                try clear q15
                try clear hx15
                try clear c16
                try clear c16b0
                try clear p16
                try clear q16
                try clear hx16
                try clear c17
                try clear c18
                try clear c21
                try clear c23
                try clear c24
                try clear c27
                try clear c27b0
                try clear hx159_0
                try clear hx163_0
                try clear p1
                try clear p15
                try clear p159
                try clear p16
                try clear p163
                try clear p2
                try clear p6
                try clear q1
                try clear q10
                try clear q15
                try clear q159
                try clear q16
                try clear q163
                obtain ⟨x11_3, x12_3, rfl, rfl, HA, HK3, HO_4, HO_9, HB⟩ := hrel
                cases gk with
                | zero => exact absurd HA.out (by simp [seedcornref26_Above.l3])
                | succ k3 =>
                  have H := HA.out
                  clear HA
                  simp only [seedcornref26_Above.l3] at H
                  by_cases c28 : x12_3 < (l0.length : Int)
                  · rw [if_pos c28] at H
                    have c28b0 : decide (x12_3 < (l0.length : Int)) = true := decide_eq_true c28
                    clear c28
                    by_cases c29 : x12_3 = x10_2
                    · rw [if_pos c29] at H
                      have c29b0 : (x12_3 == x10_2) = true := beq_iff_eq.mpr c29
                      have c29b1 : (x12_3 != x10_2) = false := bne_eq_false_iff_eq.mpr c29
                      clear c29
                      have H' := Aside0.mk H
                      clear H
                      go_wp2
                      go_roundg k3
                      case measure => have := HK1.out; have := HK2.out; have := HK3.out; omega
                      case rel => exact ⟨(x11_3), (wrap64 (x12_3 + 1)), (by first | rfl | (simp; done) | (simp [*]; done)), (by first | rfl | (simp; done) | (simp [*]; done)), H', ⟨by have := HK1.out; have := HK2.out; have := HK3.out; omega⟩, ⟨by (with_reducible repeat (first | apply Kd.S_alloc | apply Kd.S_drewN | apply Kd.S_drew)); exact HO_4.out⟩, ⟨by (with_reducible repeat (first | apply Kd.R_alloc | apply Kd.R_drewN | apply Kd.R_drew)); exact HO_9.out⟩, ⟨by repeat (first | (with_reducible first | exact HB.out | apply below_alloc | apply pw_below_drewN | apply below_drew1) | exact HB.out)⟩⟩
                    · rw [if_neg c29] at H
                      have c29b0 : (x12_3 == x10_2) = false := beq_eq_false_iff_ne.mpr c29
                      have c29b1 : (x12_3 != x10_2) = true := bne_iff_ne.mpr c29
                      by_cases c30 : 0 ≤ x12_3
                      · rw [if_pos c30] at H
                        have c30b0 : decide (0 ≤ x12_3) = true := decide_eq_true c30
                        clear c30
                        by_cases c31 : x12_3 < (x4_1.length : Int)
                        · rw [if_pos c31] at H
                          have c31b0 : decide (x12_3 < (x4_1.length : Int)) = true := decide_eq_true c31
                          clear c31
                          by_cases c32 : 0 ≤ x10_2
                          · rw [if_pos c32] at H
                            have c32b0 : decide (0 ≤ x10_2) = true := decide_eq_true c32
                            clear c32
                            by_cases c33 : x10_2 < ((rd_L3 x4_1 x12_3).length : Int)
                            · rw [if_pos c33] at H
                              have c33b0 : decide (x10_2 < ((rd_L3 x4_1 x12_3).length : Int)) = true := decide_eq_true c33
                              clear c33
                              obtain ⟨bq34, hbq34⟩ : ∃ b_ : Bool, b_ = (rdOf false (rd_L3 x4_1 x12_3) x10_2) := ⟨_, rfl⟩
                              replace H : (if bq34 = true then (if x11_3 < 0 then (seedcornref26_Above.l3 k3 l0 x4_1 x9_2 x10_2 x12_3 (wrap64 (x12_3 + 1))) else (if 0 ≤ x11_3 then (if x11_3 < (x4_1.length : Int) then (if x12_3 < ((rd_L3 x4_1 x11_3).length : Int) then (if rdOf false (rd_L3 x4_1 x11_3) x12_3 = true then (seedcornref26_Above.l3 k3 l0 x4_1 x9_2 x10_2 x12_3 (wrap64 (x12_3 + 1))) else (seedcornref26_Above.l3 k3 l0 x4_1 x9_2 x10_2 x11_3 (wrap64 (x12_3 + 1)))) else (none)) else (none)) else (none))) else (seedcornref26_Above.l3 k3 l0 x4_1 x9_2 x10_2 x11_3 (wrap64 (x12_3 + 1)))) = some r := by rw [← hbq34] at H; exact H
                              have Nbq34 := Aside0.mk hbq34
                              clear hbq34
                              by_cases c35 : bq34 = true
                              · subst c35
                                have H1 : (if x11_3 < 0 then (seedcornref26_Above.l3 k3 l0 x4_1 x9_2 x10_2 x12_3 (wrap64 (x12_3 + 1))) else (if 0 ≤ x11_3 then (if x11_3 < (x4_1.length : Int) then (if x12_3 < ((rd_L3 x4_1 x11_3).length : Int) then (if rdOf false (rd_L3 x4_1 x11_3) x12_3 = true then (seedcornref26_Above.l3 k3 l0 x4_1 x9_2 x10_2 x12_3 (wrap64 (x12_3 + 1))) else (seedcornref26_Above.l3 k3 l0 x4_1 x9_2 x10_2 x11_3 (wrap64 (x12_3 + 1)))) else (none)) else (none)) else (none))) = some r := by rw [if_pos rfl] at H; exact H
                                clear H
                                have H := H1
                                clear H1
                                by_cases c36 : x11_3 < 0
                                · rw [if_pos c36] at H
                                  have c36b0 : decide (x11_3 < 0) = true := decide_eq_true c36
                                  clear c36
                                  have H' := Aside0.mk H
                                  clear H
                                  obtain ⟨Ao37, co37, eo37⟩ := Kd.S_slice HO_4.out
                                  subst eo37
                                  have p173 : 0 ≤ (x12_3 : Int) := of_decide_eq_true (by first | (with_reducible assumption) | assumption)
                                  have q173 : x12_3 < (x4_1.length : Int) := of_decide_eq_true (by first | (with_reducible assumption) | assumption)
                                  obtain ⟨ad173, A173_0, c173_0, e173, hx173_0, hl173_0, hi173_0⟩ := at_L3 (Kd.S_reads' HO_4.out).2.2 x12_3 p173 q173
                                  cases e173
                                  obtain ⟨ce173, hce173, hMe173, hcc173⟩ := Kd.S_get HO_4.out [] x12_3 p173 (by first | exact q173 | exact of_decide_eq_true (by first | (with_reducible assumption) | assumption) | (have e_ := (Kd.S_reads' HO_4.out).1; omega))
                                  obtain ⟨ve173_0, rfl, ge173_0⟩ := hMe173
                                  have hv173_0 := hcc173 0 _ rfl
                                  rw [Nat.add_zero, show ((Kd.slice 4 Kd.bool)).sz = 1 from rfl, Nat.mul_one] at hv173_0
                                  replace hv173_0 := Option.some.inj (hv173_0.symm.trans hx173_0)
                                  rw [hv173_0] at ge173_0
                                  have HL173_0 := Aside0.mk (show Kd.R Kd.bool 4 _ _ _ _ (rd_L3 x4_1 x12_3) from ge173_0)
                                  clear hv173_0 ge173_0
                                  clear hcc173 hce173
                                  have HR173_0 := Aside0.mk hi173_0
                                  have HC173_0 := Aside0.mk hl173_0
                                  clear hi173_0 hl173_0
                                  replace p173 := eq_true p173
                                  replace q173 := eq_true q173
                                  have p174 : 0 ≤ (x10_2 : Int) := of_decide_eq_true (by first | (with_reducible assumption) | assumption)
                                  have q174 : x10_2 < ((rd_L3 x4_1 x12_3).length : Int) := of_decide_eq_true (by first | (with_reducible assumption) | assumption)
                                  obtain ⟨ad174, e174, hx174_0⟩ := Kd.at_bool (by repeat (first | (with_reducible exact HR173_0.out) | (with_reducible refine Kd.C_alloc ?_ _) | (with_reducible refine Kd.C_drewN ?_ _) | (with_reducible refine Kd.C_drew ?_) | exact HR173_0.out)) x10_2 p174 q174
                                  (try rw [← Nbq34.out] at hx174_0)
                                  cases e174
                                  replace p174 := eq_true p174
                                  replace q174 := eq_true q174
                                  go_wp2
                                  go_roundg k3
                                  case measure => have := HK1.out; have := HK2.out; have := HK3.out; omega
                                  case rel => exact ⟨(x12_3), (wrap64 (x12_3 + 1)), (by first | rfl | (simp; done) | (simp [*]; done)), (by first | rfl | (simp; done) | (simp [*]; done)), H', ⟨by have := HK1.out; have := HK2.out; have := HK3.out; omega⟩, ⟨by (with_reducible repeat (first | apply Kd.S_alloc | apply Kd.S_drewN | apply Kd.S_drew)); exact HO_4.out⟩, ⟨by (with_reducible repeat (first | apply Kd.R_alloc | apply Kd.R_drewN | apply Kd.R_drew)); exact HO_9.out⟩, ⟨by repeat (first | (with_reducible first | exact HB.out | apply below_alloc | apply pw_below_drewN | apply below_drew1) | exact HB.out)⟩⟩
                                · rw [if_neg c36] at H
                                  have c36b0 : decide (x11_3 < 0) = false := decide_eq_false c36
                                  clear c36
                                  by_cases c38 : 0 ≤ x11_3
                                  · rw [if_pos c38] at H
                                    have c38b0 : decide (0 ≤ x11_3) = true := decide_eq_true c38
                                    clear c38
                                    by_cases c39 : x11_3 < (x4_1.length : Int)
                                    · rw [if_pos c39] at H
                                      have c39b0 : decide (x11_3 < (x4_1.length : Int)) = true := decide_eq_true c39
                                      clear c39
                                      by_cases c40 : x12_3 < ((rd_L3 x4_1 x11_3).length : Int)
                                      · rw [if_pos c40] at H
                                        have c40b0 : decide (x12_3 < ((rd_L3 x4_1 x11_3).length : Int)) = true := decide_eq_true c40
                                        clear c40
                                        obtain ⟨bq41, hbq41⟩ : ∃ b_ : Bool, b_ = (rdOf false (rd_L3 x4_1 x11_3) x12_3) := ⟨_, rfl⟩
                                        replace H : (if bq41 = true then (seedcornref26_Above.l3 k3 l0 x4_1 x9_2 x10_2 x12_3 (wrap64 (x12_3 + 1))) else (seedcornref26_Above.l3 k3 l0 x4_1 x9_2 x10_2 x11_3 (wrap64 (x12_3 + 1)))) = some r := by rw [← hbq41] at H; exact H
                                        have Nbq41 := Aside0.mk hbq41
                                        clear hbq41
                                        by_cases c42 : bq41 = true
                                        · subst c42
                                          have H1 : (seedcornref26_Above.l3 k3 l0 x4_1 x9_2 x10_2 x12_3 (wrap64 (x12_3 + 1))) = some r := by rw [if_pos rfl] at H; exact H
                                          clear H
                                          have H := H1
                                          clear H1
                                          have H' := Aside0.mk H
                                          clear H
                                          obtain ⟨Ao43, co43, eo43⟩ := Kd.S_slice HO_4.out
                                          subst eo43
                                          have p173 : 0 ≤ (x12_3 : Int) := of_decide_eq_true (by first | (with_reducible assumption) | assumption)
                                          have q173 : x12_3 < (x4_1.length : Int) := of_decide_eq_true (by first | (with_reducible assumption) | assumption)
                                          obtain ⟨ad173, A173_0, c173_0, e173, hx173_0, hl173_0, hi173_0⟩ := at_L3 (Kd.S_reads' HO_4.out).2.2 x12_3 p173 q173
                                          cases e173
                                          obtain ⟨ce173, hce173, hMe173, hcc173⟩ := Kd.S_get HO_4.out [] x12_3 p173 (by first | exact q173 | exact of_decide_eq_true (by first | (with_reducible assumption) | assumption) | (have e_ := (Kd.S_reads' HO_4.out).1; omega))
                                          obtain ⟨ve173_0, rfl, ge173_0⟩ := hMe173
                                          have hv173_0 := hcc173 0 _ rfl
                                          rw [Nat.add_zero, show ((Kd.slice 4 Kd.bool)).sz = 1 from rfl, Nat.mul_one] at hv173_0
                                          replace hv173_0 := Option.some.inj (hv173_0.symm.trans hx173_0)
                                          rw [hv173_0] at ge173_0
                                          have HL173_0 := Aside0.mk (show Kd.R Kd.bool 4 _ _ _ _ (rd_L3 x4_1 x12_3) from ge173_0)
                                          clear hv173_0 ge173_0
                                          clear hcc173 hce173
                                          have HR173_0 := Aside0.mk hi173_0
                                          have HC173_0 := Aside0.mk hl173_0
                                          clear hi173_0 hl173_0
                                          replace p173 := eq_true p173
                                          replace q173 := eq_true q173
                                          have p174 : 0 ≤ (x10_2 : Int) := of_decide_eq_true (by first | (with_reducible assumption) | assumption)
                                          have q174 : x10_2 < ((rd_L3 x4_1 x12_3).length : Int) := of_decide_eq_true (by first | (with_reducible assumption) | assumption)
                                          obtain ⟨ad174, e174, hx174_0⟩ := Kd.at_bool (by repeat (first | (with_reducible exact HR173_0.out) | (with_reducible refine Kd.C_alloc ?_ _) | (with_reducible refine Kd.C_drewN ?_ _) | (with_reducible refine Kd.C_drew ?_) | exact HR173_0.out)) x10_2 p174 q174
                                          (try rw [← Nbq34.out] at hx174_0)
                                          (try rw [← Nbq41.out] at hx174_0)
                                          cases e174
                                          replace p174 := eq_true p174
                                          replace q174 := eq_true q174
                                          have p175 : 0 ≤ (x11_3 : Int) := of_decide_eq_true (by first | (with_reducible assumption) | assumption)
                                          have q175 : x11_3 < (x4_1.length : Int) := of_decide_eq_true (by first | (with_reducible assumption) | assumption)
                                          obtain ⟨ad175, A175_0, c175_0, e175, hx175_0, hl175_0, hi175_0⟩ := at_L3 (Kd.S_reads' HO_4.out).2.2 x11_3 p175 q175
                                          obtain rfl : ad173 = ad175 := (by injection e175)
                                          obtain ⟨ce175, hce175, hMe175, hcc175⟩ := Kd.S_get HO_4.out [] x11_3 p175 (by first | exact q175 | exact of_decide_eq_true (by first | (with_reducible assumption) | assumption) | (have e_ := (Kd.S_reads' HO_4.out).1; omega))
                                          obtain ⟨ve175_0, rfl, ge175_0⟩ := hMe175
                                          have hv175_0 := hcc175 0 _ rfl
                                          rw [Nat.add_zero, show ((Kd.slice 4 Kd.bool)).sz = 1 from rfl, Nat.mul_one] at hv175_0
                                          replace hv175_0 := Option.some.inj (hv175_0.symm.trans hx175_0)
                                          rw [hv175_0] at ge175_0
                                          have HL175_0 := Aside0.mk (show Kd.R Kd.bool 4 _ _ _ _ (rd_L3 x4_1 x11_3) from ge175_0)
                                          clear hv175_0 ge175_0
                                          clear hcc175 hce175
                                          have HR175_0 := Aside0.mk hi175_0
                                          have HC175_0 := Aside0.mk hl175_0
                                          clear hi175_0 hl175_0
                                          replace p175 := eq_true p175
                                          replace q175 := eq_true q175
                                          have p176 : 0 ≤ (x12_3 : Int) := of_decide_eq_true (by first | (with_reducible assumption) | assumption)
                                          have q176 : x12_3 < ((rd_L3 x4_1 x11_3).length : Int) := of_decide_eq_true (by first | (with_reducible assumption) | assumption)
                                          obtain ⟨ad176, e176, hx176_0⟩ := Kd.at_bool (by repeat (first | (with_reducible exact HR175_0.out) | (with_reducible refine Kd.C_alloc ?_ _) | (with_reducible refine Kd.C_drewN ?_ _) | (with_reducible refine Kd.C_drew ?_) | exact HR175_0.out)) x12_3 p176 q176
                                          (try rw [← Nbq34.out] at hx176_0)
                                          (try rw [← Nbq41.out] at hx176_0)
                                          cases e176
                                          replace p176 := eq_true p176
                                          replace q176 := eq_true q176
                                          go_wp2
                                          go_roundg k3
                                          case measure => have := HK1.out; have := HK2.out; have := HK3.out; omega
                                          case rel => exact ⟨(x12_3), (wrap64 (x12_3 + 1)), (by first | rfl | (simp; done) | (simp [*]; done)), (by first | rfl | (simp; done) | (simp [*]; done)), H', ⟨by have := HK1.out; have := HK2.out; have := HK3.out; omega⟩, ⟨by (with_reducible repeat (first | apply Kd.S_alloc | apply Kd.S_drewN | apply Kd.S_drew)); exact HO_4.out⟩, ⟨by (with_reducible repeat (first | apply Kd.R_alloc | apply Kd.R_drewN | apply Kd.R_drew)); exact HO_9.out⟩, ⟨by repeat (first | (with_reducible first | exact HB.out | apply below_alloc | apply pw_below_drewN | apply below_drew1) | exact HB.out)⟩⟩
                                        · replace c42 := Bool.eq_false_iff.mpr c42
                                          subst c42
                                          have H1 : (seedcornref26_Above.l3 k3 l0 x4_1 x9_2 x10_2 x11_3 (wrap64 (x12_3 + 1))) = some r := by rw [if_neg (show ¬ (false = true) by decide)] at H; exact H
                                          clear H
                                          have H := H1
                                          clear H1
                                          have H' := Aside0.mk H
                                          clear H
                                          obtain ⟨Ao44, co44, eo44⟩ := Kd.S_slice HO_4.out
                                          subst eo44
                                          have p173 : 0 ≤ (x12_3 : Int) := of_decide_eq_true (by first | (with_reducible assumption) | assumption)
                                          have q173 : x12_3 < (x4_1.length : Int) := of_decide_eq_true (by first | (with_reducible assumption) | assumption)
                                          obtain ⟨ad173, A173_0, c173_0, e173, hx173_0, hl173_0, hi173_0⟩ := at_L3 (Kd.S_reads' HO_4.out).2.2 x12_3 p173 q173
                                          cases e173
                                          obtain ⟨ce173, hce173, hMe173, hcc173⟩ := Kd.S_get HO_4.out [] x12_3 p173 (by first | exact q173 | exact of_decide_eq_true (by first | (with_reducible assumption) | assumption) | (have e_ := (Kd.S_reads' HO_4.out).1; omega))
                                          obtain ⟨ve173_0, rfl, ge173_0⟩ := hMe173
                                          have hv173_0 := hcc173 0 _ rfl
                                          rw [Nat.add_zero, show ((Kd.slice 4 Kd.bool)).sz = 1 from rfl, Nat.mul_one] at hv173_0
                                          replace hv173_0 := Option.some.inj (hv173_0.symm.trans hx173_0)
                                          rw [hv173_0] at ge173_0
                                          have HL173_0 := Aside0.mk (show Kd.R Kd.bool 4 _ _ _ _ (rd_L3 x4_1 x12_3) from ge173_0)
                                          clear hv173_0 ge173_0
                                          clear hcc173 hce173
                                          have HR173_0 := Aside0.mk hi173_0
                                          have HC173_0 := Aside0.mk hl173_0
                                          clear hi173_0 hl173_0
                                          replace p173 := eq_true p173
                                          replace q173 := eq_true q173
                                          have p174 : 0 ≤ (x10_2 : Int) := of_decide_eq_true (by first | (with_reducible assumption) | assumption)
                                          have q174 : x10_2 < ((rd_L3 x4_1 x12_3).length : Int) := of_decide_eq_true (by first | (with_reducible assumption) | assumption)
                                          obtain ⟨ad174, e174, hx174_0⟩ := Kd.at_bool (by repeat (first | (with_reducible exact HR173_0.out) | (with_reducible refine Kd.C_alloc ?_ _) | (with_reducible refine Kd.C_drewN ?_ _) | (with_reducible refine Kd.C_drew ?_) | exact HR173_0.out)) x10_2 p174 q174
                                          (try rw [← Nbq34.out] at hx174_0)
                                          (try rw [← Nbq41.out] at hx174_0)
                                          cases e174
                                          replace p174 := eq_true p174
                                          replace q174 := eq_true q174
                                          have p175 : 0 ≤ (x11_3 : Int) := of_decide_eq_true (by first | (with_reducible assumption) | assumption)
                                          have q175 : x11_3 < (x4_1.length : Int) := of_decide_eq_true (by first | (with_reducible assumption) | assumption)
                                          obtain ⟨ad175, A175_0, c175_0, e175, hx175_0, hl175_0, hi175_0⟩ := at_L3 (Kd.S_reads' HO_4.out).2.2 x11_3 p175 q175
                                          obtain rfl : ad173 = ad175 := (by injection e175)
                                          obtain ⟨ce175, hce175, hMe175, hcc175⟩ := Kd.S_get HO_4.out [] x11_3 p175 (by first | exact q175 | exact of_decide_eq_true (by first | (with_reducible assumption) | assumption) | (have e_ := (Kd.S_reads' HO_4.out).1; omega))
                                          obtain ⟨ve175_0, rfl, ge175_0⟩ := hMe175
                                          have hv175_0 := hcc175 0 _ rfl
                                          rw [Nat.add_zero, show ((Kd.slice 4 Kd.bool)).sz = 1 from rfl, Nat.mul_one] at hv175_0
                                          replace hv175_0 := Option.some.inj (hv175_0.symm.trans hx175_0)
                                          rw [hv175_0] at ge175_0
                                          have HL175_0 := Aside0.mk (show Kd.R Kd.bool 4 _ _ _ _ (rd_L3 x4_1 x11_3) from ge175_0)
                                          clear hv175_0 ge175_0
                                          clear hcc175 hce175
                                          have HR175_0 := Aside0.mk hi175_0
                                          have HC175_0 := Aside0.mk hl175_0
                                          clear hi175_0 hl175_0
                                          replace p175 := eq_true p175
                                          replace q175 := eq_true q175
                                          have p176 : 0 ≤ (x12_3 : Int) := of_decide_eq_true (by first | (with_reducible assumption) | assumption)
                                          have q176 : x12_3 < ((rd_L3 x4_1 x11_3).length : Int) := of_decide_eq_true (by first | (with_reducible assumption) | assumption)
                                          obtain ⟨ad176, e176, hx176_0⟩ := Kd.at_bool (by repeat (first | (with_reducible exact HR175_0.out) | (with_reducible refine Kd.C_alloc ?_ _) | (with_reducible refine Kd.C_drewN ?_ _) | (with_reducible refine Kd.C_drew ?_) | exact HR175_0.out)) x12_3 p176 q176
                                          (try rw [← Nbq34.out] at hx176_0)
                                          (try rw [← Nbq41.out] at hx176_0)
                                          cases e176
                                          replace p176 := eq_true p176
                                          replace q176 := eq_true q176
                                          go_wp2
                                          go_roundg k3
                                          case measure => have := HK1.out; have := HK2.out; have := HK3.out; omega
                                          case rel => exact ⟨(x11_3), (wrap64 (x12_3 + 1)), (by first | rfl | (simp; done) | (simp [*]; done)), (by first | rfl | (simp; done) | (simp [*]; done)), H', ⟨by have := HK1.out; have := HK2.out; have := HK3.out; omega⟩, ⟨by (with_reducible repeat (first | apply Kd.S_alloc | apply Kd.S_drewN | apply Kd.S_drew)); exact HO_4.out⟩, ⟨by (with_reducible repeat (first | apply Kd.R_alloc | apply Kd.R_drewN | apply Kd.R_drew)); exact HO_9.out⟩, ⟨by repeat (first | (with_reducible first | exact HB.out | apply below_alloc | apply pw_below_drewN | apply below_drew1) | exact HB.out)⟩⟩
                                      · rw [if_neg c40] at H
                                        exact absurd H (by simp)
                                    · rw [if_neg c39] at H
                                      exact absurd H (by simp)
                                  · rw [if_neg c38] at H
                                    exact absurd H (by simp)
                              · replace c35 := Bool.eq_false_iff.mpr c35
                                subst c35
                                have H1 : (seedcornref26_Above.l3 k3 l0 x4_1 x9_2 x10_2 x11_3 (wrap64 (x12_3 + 1))) = some r := by rw [if_neg (show ¬ (false = true) by decide)] at H; exact H
                                clear H
                                have H := H1
                                clear H1
                                have H' := Aside0.mk H
                                clear H
                                obtain ⟨Ao45, co45, eo45⟩ := Kd.S_slice HO_4.out
                                subst eo45
                                have p173 : 0 ≤ (x12_3 : Int) := of_decide_eq_true (by first | (with_reducible assumption) | assumption)
                                have q173 : x12_3 < (x4_1.length : Int) := of_decide_eq_true (by first | (with_reducible assumption) | assumption)
                                obtain ⟨ad173, A173_0, c173_0, e173, hx173_0, hl173_0, hi173_0⟩ := at_L3 (Kd.S_reads' HO_4.out).2.2 x12_3 p173 q173
                                cases e173
                                obtain ⟨ce173, hce173, hMe173, hcc173⟩ := Kd.S_get HO_4.out [] x12_3 p173 (by first | exact q173 | exact of_decide_eq_true (by first | (with_reducible assumption) | assumption) | (have e_ := (Kd.S_reads' HO_4.out).1; omega))
                                obtain ⟨ve173_0, rfl, ge173_0⟩ := hMe173
                                have hv173_0 := hcc173 0 _ rfl
                                rw [Nat.add_zero, show ((Kd.slice 4 Kd.bool)).sz = 1 from rfl, Nat.mul_one] at hv173_0
                                replace hv173_0 := Option.some.inj (hv173_0.symm.trans hx173_0)
                                rw [hv173_0] at ge173_0
                                have HL173_0 := Aside0.mk (show Kd.R Kd.bool 4 _ _ _ _ (rd_L3 x4_1 x12_3) from ge173_0)
                                clear hv173_0 ge173_0
                                clear hcc173 hce173
                                have HR173_0 := Aside0.mk hi173_0
                                have HC173_0 := Aside0.mk hl173_0
                                clear hi173_0 hl173_0
                                replace p173 := eq_true p173
                                replace q173 := eq_true q173
                                have p174 : 0 ≤ (x10_2 : Int) := of_decide_eq_true (by first | (with_reducible assumption) | assumption)
                                have q174 : x10_2 < ((rd_L3 x4_1 x12_3).length : Int) := of_decide_eq_true (by first | (with_reducible assumption) | assumption)
                                obtain ⟨ad174, e174, hx174_0⟩ := Kd.at_bool (by repeat (first | (with_reducible exact HR173_0.out) | (with_reducible refine Kd.C_alloc ?_ _) | (with_reducible refine Kd.C_drewN ?_ _) | (with_reducible refine Kd.C_drew ?_) | exact HR173_0.out)) x10_2 p174 q174
                                (try rw [← Nbq34.out] at hx174_0)
                                cases e174
                                replace p174 := eq_true p174
                                replace q174 := eq_true q174
                                go_wp2
                                go_roundg k3
                                case measure => have := HK1.out; have := HK2.out; have := HK3.out; omega
                                case rel => exact ⟨(x11_3), (wrap64 (x12_3 + 1)), (by first | rfl | (simp; done) | (simp [*]; done)), (by first | rfl | (simp; done) | (simp [*]; done)), H', ⟨by have := HK1.out; have := HK2.out; have := HK3.out; omega⟩, ⟨by (with_reducible repeat (first | apply Kd.S_alloc | apply Kd.S_drewN | apply Kd.S_drew)); exact HO_4.out⟩, ⟨by (with_reducible repeat (first | apply Kd.R_alloc | apply Kd.R_drewN | apply Kd.R_drew)); exact HO_9.out⟩, ⟨by repeat (first | (with_reducible first | exact HB.out | apply below_alloc | apply pw_below_drewN | apply below_drew1) | exact HB.out)⟩⟩
                            · rw [if_neg c33] at H
                              exact absurd H (by simp)
                          · rw [if_neg c32] at H
                            exact absurd H (by simp)
                        · rw [if_neg c31] at H
                          exact absurd H (by simp)
                      · rw [if_neg c30] at H
                        exact absurd H (by simp)
                  · rw [if_neg c28] at H
                    have c28b0 : decide (x12_3 < (l0.length : Int)) = false := decide_eq_false c28
                    clear c28
                    by_cases c46 : x9_2.length < 17592186044416
                    · rw [if_pos c46] at H
                      have LMc46 := Aside0.mk c46
                      clear c46
                      obtain ⟨y177, hy177⟩ : ∃ y_ : List Int, y_ = (x9_2 ++ [x11_3]) := ⟨_, rfl⟩
                      replace H : (seedcornref26_Above.l2 k3 l0 x4_1 y177 (wrap64 (x10_2 + 1))) = some r := by first | (rw [hy177]; with_reducible exact H) | (have H2_ := (Option.bind_some _ _).symm.trans H; rw [hy177]; with_reducible exact H2_) | (have H2_ := (Option.bind_some _ _).symm.trans H; with_reducible exact H2_) | with_reducible exact H | (rw [hy177]; exact H) | exact H
                      have Ny177 := Aside0.mk hy177
                      clear hy177
                      have H' := Aside0.mk H
                      clear H
                      go_wp2_with (first | ((with_reducible refine gate_builtin (b := .append) (xs := #[.tmp 91, .tmp 93]) rfl ?_); at_builtin; refine Kd.R_append (Kd.int .i64) (w0 := w) w.heap.size rfl (.tmp 91) (.tmp 93) 28 3 (.int .i64 0) 8 rfl Try.underlying28 info3 rfl (by decide) (by omega) u9 x9_2 x11_3 [.int .i64 x11_3] (fun _ => True) (fun _ => False) rfl rfl ?aP (fun _ hk => hk.elim) ?aF ?aO ?aB ?aS ?aL ?_; (case aP => exact rfl); (case aB => exact (by repeat (first | (with_reducible first | exact HB.out | apply below_alloc | apply pw_below_drewN | apply below_drew1) | exact HB.out))); (case aF => exact (fun _ _ => trivial)); (case aO => exact (by (with_reducible repeat (first | apply Kd.R_alloc | apply Kd.R_drewN | apply Kd.R_drew)); exact HO_9.out)); (case aS => exact (below_size (by repeat (first | (with_reducible first | exact HB.out | apply below_alloc | apply pw_below_drewN | apply below_drew1) | exact HB.out)))); (case aL => have := LMc46.out; omega); intro v178 w47 ho hb hg hat; rw [← Ny177.out] at ho; have n0_ := Aside0.mk (Kd.S_over' (by (with_reducible repeat (first | apply Kd.S_alloc | apply Kd.S_drewN | apply Kd.S_drew)); exact HO_4.out) (Kd.R_typed (by (with_reducible repeat (first | apply Kd.R_alloc | apply Kd.R_drewN | apply Kd.R_drew)); exact HO_9.out)) (by decide) hg); have n1_ := Aside0.mk (hb); have n2_ := Aside0.mk (ho); clear HO_4; clear HB; clear HO_9; have HO_4 := n0_; have HB := n1_; have HO179 := n2_; clear n0_ n1_ n2_; clear ho hb hg hat))
                      go_roundg k3
                      case measure => have := HK1.out; have := HK2.out; have := HK3.out; omega
                      case rel => exact ⟨(y177), (wrap64 (x10_2 + 1)), (by first | rfl | (simp; done) | (simp [*]; done)), H', ⟨by have := HK1.out; have := HK2.out; have := HK3.out; omega⟩, ⟨by (with_reducible repeat (first | apply Kd.S_alloc | apply Kd.S_drewN | apply Kd.S_drew)); exact HO_4.out⟩, ⟨by (with_reducible repeat (first | apply Kd.R_alloc | apply Kd.R_drewN | apply Kd.R_drew)); exact HO179.out⟩, ⟨by repeat (first | (with_reducible first | exact HB.out | apply below_alloc | apply pw_below_drewN | apply below_drew1) | exact HB.out)⟩⟩
                    · rw [if_neg c46] at H
                      exact absurd H (by simp)
            · rw [if_neg c27] at H
              have c27b0 : decide (x10_2 < (l0.length : Int)) = false := decide_eq_false c27
              clear c27
              obtain rfl := Option.some.inj H
              go_wp2
              go_ret
              exact ⟨_, by first | rfl | (simp [errW_none, errW_some] <;> rfl) | (simp [*, errW_none, errW_some] <;> rfl), by (with_reducible repeat (first | apply Kd.R_alloc | apply Kd.R_drewN | apply Kd.R_drew)); exact HO_9.out, by repeat (first | (with_reducible first | exact HB.out | apply below_alloc | apply pw_below_drewN | apply below_drew1) | exact HB.out)⟩

-- NOT PRINTED: function 4 (seedcornlaw26_FlowAbove)

end Go.Proofs.Ytnlapancooecjaa.PFlowAbove
