-- PRINTED BY print.sh 35421559b90ae4d0a3588c463048766b98c2df88dd9212a6774a882060cdf62d: not written by this session
import Derived.Test.YtlngcolnjgloaaaPStackRunsx0
namespace Go.Proofs.Ytlngcolnjgloaaa.PStackRuns
open Go.RowKit Go.Proofs.YtlngcolnjgloaaaW.PrintWords Go.Proofs.YtlngcolnjgloaaaW.PrintLast Go.Proofs.YtlngcolnjgloaaaW.PrintMore
attribute [local go_sem] max2_int min2_int max_two min_two max_three min_three max_four min_four   -- for this text's walks alone
set_option linter.unusedVariables false
set_option linter.unusedSimpArgs false

-- NOT PRINTED: function 31 (stack_frame_push)

-- NOT PRINTED: function 20 (stack_machine_call)

-- NOT PRINTED: function 32 (stack_pile_uint32_push)

-- NOT PRINTED: function 33 (stack_pile_uint32_pop)

-- NOT PRINTED: function 50 (stack_machine_far)

-- NOT PRINTED: function 34 (stack_machine_array)

/-! ### word_truth: function 22 -/
def word_truth.f (a0 : Bool) : Option (Int) := if a0 = true then (some 1) else (some 0)
set_option maxHeartbeats 8000000 in
set_option maxRecDepth 100000 in
theorem word_truth.calls (a0 : Bool) (r : Int) (w : World) (h : word_truth.f a0 = some r) :
    Calls Try.prog 22 #[.bool a0] w fun e w' => e = .returned (.int .u32 r) ∧ Drawn0 w w' := by
  have H : (if a0 = true then (some 1) else (some 0)) = some r := h
  clear h
  by_cases c2 : a0 = true
  · subst c2
    have H1 : (some 1) = some r := by rw [if_pos rfl] at H; exact H
    clear H
    have H := H1
    clear H1
    obtain rfl := Option.some.inj H
    go_enter Try.func22, Try.ntmps22
    go_wp2
    go_ret
    exact ⟨by first | rfl | (simp; done) | (simp [*]; done), by repeat (first | exact Drawn0.refl _ | apply Drawn0.step)⟩
  · replace c2 := Bool.eq_false_iff.mpr c2
    subst c2
    have H1 : (some 0) = some r := by rw [if_neg (show ¬ (false = true) by decide)] at H; exact H
    clear H
    have H := H1
    clear H1
    obtain rfl := Option.some.inj H
    go_enter Try.func22, Try.ntmps22
    go_wp2
    go_ret
    exact ⟨by first | rfl | (simp; done) | (simp [*]; done), by repeat (first | exact Drawn0.refl _ | apply Drawn0.step)⟩

/-! ### word_Apply: function 11 -/
def word_Apply.j0 : Nat → Int → Int → Int → Option (Int × Int)
  | 0, _, _, _ => none
  | k + 1, x0, x1, x2 => if x2 = 0 then (some (0, 14)) else (if x0 = 7 then (some ((Int.tdiv x1 x2) % 4294967296, 0)) else (some (Int.tmod x1 x2, 0)))
def word_Apply.f (k : Nat) (a0 : Int) (a1 : Int) (a2 : Int) : Option (Int × Int) := if a0 = 7 then (word_Apply.j0 k a0 a1 a2) else (if a0 = 8 then (word_Apply.j0 k a0 a1 a2) else (if a0 = 4 then (some ((a1 + a2) % 4294967296, 0)) else (if a0 = 5 then (some ((a1 - a2) % 4294967296, 0)) else (if a0 = 6 then (some ((a1 * a2) % 4294967296, 0)) else (if a0 = 9 then (some (Go.bits .and .u32 a1 a2, 0)) else (if a0 = 10 then (some (Go.bits .or .u32 a1 a2, 0)) else (if a0 = 11 then (some (Go.bits .xor .u32 a1 a2, 0)) else (if a0 = 12 then (if 0 ≤ a2 then (some (shl .u32 a1 a2, 0)) else (none)) else (if a0 = 13 then (if 0 ≤ a2 then (some (shr .u32 a1 a2, 0)) else (none)) else (if a0 = 14 then ((word_truth.f (decide (a1 < a2))).bind fun t102 => (some (t102, 0))) else (if a0 = 15 then ((word_truth.f (a1 == a2)).bind fun t103 => (some (t103, 0))) else (some (0, 1)))))))))))))
theorem word_Apply.mono_l : ∀ k, (∀ y0 y1 y2, LeO (word_Apply.j0 k y0 y1 y2) (word_Apply.j0 (k + 1) y0 y1 y2))
  | 0 => fun _ _ _ r h => by simp [word_Apply.j0] at h
  | k + 1 => by
    have ih0 := word_Apply.mono_l k
    · intro y0 y1 y2
      unfold word_Apply.j0
      repeat' first
      | (with_reducible exact ih0 _ _ _)
      | (with_reducible exact LeO.refl _)
      | (with_reducible exact LeO.none _)
      | (with_reducible refine LeO.ite ?_ ?_)
      | (with_reducible refine LeO.bind ?_ (fun _ => ?_))
      | exact ih0 _ _ _
      | exact LeO.none _
      | refine LeO.ite ?_ ?_
      | refine LeO.bind ?_ (fun _ => ?_)
theorem word_Apply.mono : ∀ a0 a1 a2 k, LeO (word_Apply.f k a0 a1 a2) (word_Apply.f (k + 1) a0 a1 a2) := by
  intro a0 a1 a2 k
  have ih0 := word_Apply.mono_l k
  unfold word_Apply.f
  repeat' first
      | (with_reducible exact ih0 _ _ _)
      | (with_reducible exact LeO.refl _)
      | (with_reducible exact LeO.none _)
      | (with_reducible refine LeO.ite ?_ ?_)
      | (with_reducible refine LeO.bind ?_ (fun _ => ?_))
      | exact ih0 _ _ _
      | exact LeO.none _
      | refine LeO.ite ?_ ?_
      | refine LeO.bind ?_ (fun _ => ?_)
set_option maxHeartbeats 8000000 in
set_option maxRecDepth 100000 in
theorem word_Apply.calls (k : Nat) (a0 : Int) (a1 : Int) (a2 : Int) (r1 : Int) (r2 : Int) (w : World) (h : word_Apply.f k a0 a1 a2 = some (r1, r2)) :
    Calls Try.prog 11 #[.int .i64 a0, .int .u32 a1, .int .u32 a2] w fun e w' => e = .returned (.tuple #[.int .u32 r1, .int .i64 r2]) ∧ Drawn0 w w' := by
  have H : (if a0 = 7 then (word_Apply.j0 k a0 a1 a2) else (if a0 = 8 then (word_Apply.j0 k a0 a1 a2) else (if a0 = 4 then (some ((a1 + a2) % 4294967296, 0)) else (if a0 = 5 then (some ((a1 - a2) % 4294967296, 0)) else (if a0 = 6 then (some ((a1 * a2) % 4294967296, 0)) else (if a0 = 9 then (some (Go.bits .and .u32 a1 a2, 0)) else (if a0 = 10 then (some (Go.bits .or .u32 a1 a2, 0)) else (if a0 = 11 then (some (Go.bits .xor .u32 a1 a2, 0)) else (if a0 = 12 then (if 0 ≤ a2 then (some (shl .u32 a1 a2, 0)) else (none)) else (if a0 = 13 then (if 0 ≤ a2 then (some (shr .u32 a1 a2, 0)) else (none)) else (if a0 = 14 then ((word_truth.f (decide (a1 < a2))).bind fun t102 => (some (t102, 0))) else (if a0 = 15 then ((word_truth.f (a1 == a2)).bind fun t103 => (some (t103, 0))) else (some (0, 1)))))))))))))) = some (r1, r2) := h
  clear h
  have HC4 := Aside0.mk H
  clear H
  go_enter Try.func11, Try.ntmps11
  go_upto_block 2 with (fail)
  go_cut [] (fun wc => ∃ (kq : Nat), Aside0 (word_Apply.j0 kq a0 a1 a2 = some (r1, r2)) ∧ Aside0 (kq ≤ k) ∧ Drawn0 w wc)
  case first =>
    have H := HC4.out
    clear HC4
    by_cases c5 : a0 = 7
    · rw [if_pos c5] at H
      have c5b0 : (a0 == 7) = true := beq_iff_eq.mpr c5
      have c5b1 : (a0 != 7) = false := bne_eq_false_iff_eq.mpr c5
      clear c5
      (first | rw [c5b0] | (simp only [i64_w, i32_w]; rw [c5b0]) | skip)
      have H' := Aside0.mk H
      clear H
      go_wp2
      go_meet
      case rel => exact ⟨_, H', ⟨by first | omega | exact Nat.le_refl _⟩, by repeat (first | exact Drawn0.refl _ | apply Drawn0.step)⟩
    · rw [if_neg c5] at H
      have c5b0 : (a0 == 7) = false := beq_eq_false_iff_ne.mpr c5
      have c5b1 : (a0 != 7) = true := bne_iff_ne.mpr c5
      (first | rw [c5b0] | (simp only [i64_w, i32_w]; rw [c5b0]) | skip)
      by_cases c6 : a0 = 8
      · rw [if_pos c6] at H
        have c6b0 : (a0 == 8) = true := beq_iff_eq.mpr c6
        have c6b1 : (a0 != 8) = false := bne_eq_false_iff_eq.mpr c6
        clear c6
        have H' := Aside0.mk H
        clear H
        go_wp2
        go_meet
        case rel => exact ⟨_, H', ⟨by first | omega | exact Nat.le_refl _⟩, by repeat (first | exact Drawn0.refl _ | apply Drawn0.step)⟩
      · rw [if_neg c6] at H
        have c6b0 : (a0 == 8) = false := beq_eq_false_iff_ne.mpr c6
        have c6b1 : (a0 != 8) = true := bne_iff_ne.mpr c6
        by_cases c7 : a0 = 4
        · rw [if_pos c7] at H
          have c7b0 : (a0 == 4) = true := beq_iff_eq.mpr c7
          have c7b1 : (a0 != 4) = false := bne_eq_false_iff_eq.mpr c7
          clear c7
          simp only [Option.some.injEq, Prod.mk.injEq] at H
          obtain ⟨rfl, rfl⟩ := H
          go_wp2
          go_ret2
          exact ⟨by first | rfl | (simp; done) | (simp [*]; done), by repeat (first | exact Drawn0.refl _ | apply Drawn0.step)⟩
        · rw [if_neg c7] at H
          have c7b0 : (a0 == 4) = false := beq_eq_false_iff_ne.mpr c7
          have c7b1 : (a0 != 4) = true := bne_iff_ne.mpr c7
          by_cases c8 : a0 = 5
          · rw [if_pos c8] at H
            have c8b0 : (a0 == 5) = true := beq_iff_eq.mpr c8
            have c8b1 : (a0 != 5) = false := bne_eq_false_iff_eq.mpr c8
            clear c8
            simp only [Option.some.injEq, Prod.mk.injEq] at H
            obtain ⟨rfl, rfl⟩ := H
            go_wp2
            go_ret2
            exact ⟨by first | rfl | (simp; done) | (simp [*]; done), by repeat (first | exact Drawn0.refl _ | apply Drawn0.step)⟩
          · rw [if_neg c8] at H
            have c8b0 : (a0 == 5) = false := beq_eq_false_iff_ne.mpr c8
            have c8b1 : (a0 != 5) = true := bne_iff_ne.mpr c8
            by_cases c9 : a0 = 6
            · rw [if_pos c9] at H
              have c9b0 : (a0 == 6) = true := beq_iff_eq.mpr c9
              have c9b1 : (a0 != 6) = false := bne_eq_false_iff_eq.mpr c9
              clear c9
              simp only [Option.some.injEq, Prod.mk.injEq] at H
              obtain ⟨rfl, rfl⟩ := H
              go_wp2
              go_ret2
              exact ⟨by first | rfl | (simp; done) | (simp [*]; done), by repeat (first | exact Drawn0.refl _ | apply Drawn0.step)⟩
            · rw [if_neg c9] at H
              have c9b0 : (a0 == 6) = false := beq_eq_false_iff_ne.mpr c9
              have c9b1 : (a0 != 6) = true := bne_iff_ne.mpr c9
              by_cases c10 : a0 = 9
              · rw [if_pos c10] at H
                have c10b0 : (a0 == 9) = true := beq_iff_eq.mpr c10
                have c10b1 : (a0 != 9) = false := bne_eq_false_iff_eq.mpr c10
                clear c10
                simp only [Option.some.injEq, Prod.mk.injEq] at H
                obtain ⟨rfl, rfl⟩ := H
                go_wp2
                go_ret2
                exact ⟨by first | rfl | (simp; done) | (simp [*]; done), by repeat (first | exact Drawn0.refl _ | apply Drawn0.step)⟩
              · rw [if_neg c10] at H
                have c10b0 : (a0 == 9) = false := beq_eq_false_iff_ne.mpr c10
                have c10b1 : (a0 != 9) = true := bne_iff_ne.mpr c10
                by_cases c11 : a0 = 10
                · rw [if_pos c11] at H
                  have c11b0 : (a0 == 10) = true := beq_iff_eq.mpr c11
                  have c11b1 : (a0 != 10) = false := bne_eq_false_iff_eq.mpr c11
                  clear c11
                  simp only [Option.some.injEq, Prod.mk.injEq] at H
                  obtain ⟨rfl, rfl⟩ := H
                  go_wp2
                  go_ret2
                  exact ⟨by first | rfl | (simp; done) | (simp [*]; done), by repeat (first | exact Drawn0.refl _ | apply Drawn0.step)⟩
                · rw [if_neg c11] at H
                  have c11b0 : (a0 == 10) = false := beq_eq_false_iff_ne.mpr c11
                  have c11b1 : (a0 != 10) = true := bne_iff_ne.mpr c11
                  by_cases c12 : a0 = 11
                  · rw [if_pos c12] at H
                    have c12b0 : (a0 == 11) = true := beq_iff_eq.mpr c12
                    have c12b1 : (a0 != 11) = false := bne_eq_false_iff_eq.mpr c12
                    clear c12
                    simp only [Option.some.injEq, Prod.mk.injEq] at H
                    obtain ⟨rfl, rfl⟩ := H
                    go_wp2
                    go_ret2
                    exact ⟨by first | rfl | (simp; done) | (simp [*]; done), by repeat (first | exact Drawn0.refl _ | apply Drawn0.step)⟩
                  · rw [if_neg c12] at H
                    have c12b0 : (a0 == 11) = false := beq_eq_false_iff_ne.mpr c12
                    have c12b1 : (a0 != 11) = true := bne_iff_ne.mpr c12
                    by_cases c13 : a0 = 12
                    · rw [if_pos c13] at H
                      have c13b0 : (a0 == 12) = true := beq_iff_eq.mpr c13
                      have c13b1 : (a0 != 12) = false := bne_eq_false_iff_eq.mpr c13
                      clear c13
                      by_cases c14 : 0 ≤ a2
                      · rw [if_pos c14] at H
                        have c14b0 := eq_true c14
                        have c14b1 : decide (0 ≤ a2) = true := decide_eq_true c14
                        clear c14
                        obtain ⟨ji15, hji15⟩ : ∃ j_ : Int, (shl .u32 a1 a2) = j_ := ⟨_, rfl⟩
                        replace H : (some (ji15, 0)) = some (r1, r2) := by first | (rw [hji15] at H; exact H) | (simp only [hji15] at H ⊢; exact H)
                        have hji15_ : (IntKind.u32.wrap (a1 * 2 ^ min a2.toNat 32)) = ji15 := hji15
                        have hji15z : a2 ≤ 32 → (IntKind.u32.wrap (a1 * 2 ^ a2.toNat)) = ji15 := shl_small hji15
                        simp only [Option.some.injEq, Prod.mk.injEq] at H
                        obtain ⟨rfl, rfl⟩ := H
                        go_wp2
                        go_ret2
                        exact ⟨by first | rfl | (simp; done) | (simp only [← hji15] <;> (first | rfl | simp)) | (simp [*]; done), by repeat (first | exact Drawn0.refl _ | apply Drawn0.step)⟩
                      · rw [if_neg c14] at H
                        exact absurd H (by simp)
                    · rw [if_neg c13] at H
                      have c13b0 : (a0 == 12) = false := beq_eq_false_iff_ne.mpr c13
                      have c13b1 : (a0 != 12) = true := bne_iff_ne.mpr c13
                      by_cases c16 : a0 = 13
                      · rw [if_pos c16] at H
                        have c16b0 : (a0 == 13) = true := beq_iff_eq.mpr c16
                        have c16b1 : (a0 != 13) = false := bne_eq_false_iff_eq.mpr c16
                        clear c16
                        by_cases c17 : 0 ≤ a2
                        · rw [if_pos c17] at H
                          have c17b0 := eq_true c17
                          have c17b1 : decide (0 ≤ a2) = true := decide_eq_true c17
                          clear c17
                          obtain ⟨ji18, hji18⟩ : ∃ j_ : Int, (shr .u32 a1 a2) = j_ := ⟨_, rfl⟩
                          replace H : (some (ji18, 0)) = some (r1, r2) := by first | (rw [hji18] at H; exact H) | (simp only [hji18] at H ⊢; exact H)
                          have hji18_ : (a1 / 2 ^ min a2.toNat 32) = ji18 := hji18
                          have hji18z : a2 ≤ 32 → (a1 / 2 ^ a2.toNat) = ji18 := shr_small hji18
                          simp only [Option.some.injEq, Prod.mk.injEq] at H
                          obtain ⟨rfl, rfl⟩ := H
                          go_wp2
                          go_ret2
                          exact ⟨by first | rfl | (simp; done) | (simp only [← hji18] <;> (first | rfl | simp)) | (simp [*]; done), by repeat (first | exact Drawn0.refl _ | apply Drawn0.step)⟩
                        · rw [if_neg c17] at H
                          exact absurd H (by simp)
                      · rw [if_neg c16] at H
                        have c16b0 : (a0 == 13) = false := beq_eq_false_iff_ne.mpr c16
                        have c16b1 : (a0 != 13) = true := bne_iff_ne.mpr c16
                        by_cases c19 : a0 = 14
                        · rw [if_pos c19] at H
                          have c19b0 : (a0 == 14) = true := beq_iff_eq.mpr c19
                          have c19b1 : (a0 != 14) = false := bne_eq_false_iff_eq.mpr c19
                          clear c19
                          replace H := Option.bind_eq_some_iff.mp H
                          obtain ⟨t102, A200, H⟩ := H
                          replace H : (some (t102, 0)) = some (r1, r2) := H
                          have A20 := Aside0.mk A200
                          clear A200
                          simp only [Option.some.injEq, Prod.mk.injEq] at H
                          obtain ⟨rfl, rfl⟩ := H
                          go_wp2_with (first | ((with_reducible refine gate_callee (f := 22) rfl ?_); refine goesL_ (some 70) rfl rfl Try.func22 (by kernel_rfl) rfl #[.bool (decide (a1 < a2))] rfl (by (try simp only [List.map_toArray, List.map_cons, List.map_nil]); first | done | rfl | (simp only [List.length_drop, List.length_take]; rfl)) ?_; (with_reducible refine (word_truth.calls (decide (a1 < a2)) t102 _ A20.out).mono ?_); rintro e w' ⟨rfl, ⟨nd, rfl⟩⟩; refine ⟨_, rfl, ?_⟩))
                          go_ret2
                          exact ⟨by first | rfl | (simp; done) | (simp [*]; done), by repeat (first | exact Drawn0.refl _ | apply Drawn0.step)⟩
                        · rw [if_neg c19] at H
                          have c19b0 : (a0 == 14) = false := beq_eq_false_iff_ne.mpr c19
                          have c19b1 : (a0 != 14) = true := bne_iff_ne.mpr c19
                          by_cases c21 : a0 = 15
                          · rw [if_pos c21] at H
                            have c21b0 : (a0 == 15) = true := beq_iff_eq.mpr c21
                            have c21b1 : (a0 != 15) = false := bne_eq_false_iff_eq.mpr c21
                            clear c21
                            replace H := Option.bind_eq_some_iff.mp H
                            obtain ⟨t103, A220, H⟩ := H
                            replace H : (some (t103, 0)) = some (r1, r2) := H
                            have A22 := Aside0.mk A220
                            clear A220
                            simp only [Option.some.injEq, Prod.mk.injEq] at H
                            obtain ⟨rfl, rfl⟩ := H
                            go_wp2_with (first | ((with_reducible refine gate_callee (f := 22) rfl ?_); refine goesL_ (some 74) rfl rfl Try.func22 (by kernel_rfl) rfl #[.bool (a1 == a2)] rfl (by (try simp only [List.map_toArray, List.map_cons, List.map_nil]); first | done | rfl | (simp only [List.length_drop, List.length_take]; rfl)) ?_; (with_reducible refine (word_truth.calls (a1 == a2) t103 _ A22.out).mono ?_); rintro e w' ⟨rfl, ⟨nd, rfl⟩⟩; refine ⟨_, rfl, ?_⟩))
                            go_ret2
                            exact ⟨by first | rfl | (simp; done) | (simp [*]; done), by repeat (first | exact Drawn0.refl _ | apply Drawn0.step)⟩
                          · rw [if_neg c21] at H
                            have c21b0 : (a0 == 15) = false := beq_eq_false_iff_ne.mpr c21
                            have c21b1 : (a0 != 15) = true := bne_iff_ne.mpr c21
                            simp only [Option.some.injEq, Prod.mk.injEq] at H
                            obtain ⟨rfl, rfl⟩ := H
                            go_wp2
                            go_ret2
                            exact ⟨by first | rfl | (simp; done) | (simp [*]; done), by repeat (first | exact Drawn0.refl _ | apply Drawn0.step)⟩
  case rest =>
    clear HC4
    try clear c1
    try clear c2
    try clear p2
    try clear c5
    try clear c5b0
    try clear c5b1
    try clear c6
    try clear c6b0
    try clear c6b1
    try clear c7
    try clear c7b0
    try clear c7b1
    try clear c8
    try clear c8b0
    try clear c8b1
    try clear c9
    try clear c9b0
    try clear c9b1
    try clear c10
    try clear c10b0
    try clear c10b1
    try clear c11
    try clear c11b0
    try clear c11b1
    try clear c12
    try clear c12b0
    try clear c12b1
    try clear c13
    try clear c13b0
    try clear c13b1
    try clear c14
    try clear c14b0
    try clear c14b1
    try clear c16
    try clear c16b0
    try clear c16b1
    try clear c17
    try clear c17b0
    try clear c17b1
    try clear c19
    try clear c19b0
    try clear c19b1
    try clear c21
    try clear c21b0
    try clear c21b1
    try clear c22
    obtain ⟨kq, HA, HJ3, ⟨mc3, rfl⟩⟩ := hcut
    cases kq with
    | zero => exact absurd HA.out (by simp [word_Apply.j0])
    | succ kj3 =>
      have H := HA.out
      clear HA
      simp only [word_Apply.j0] at H
      by_cases c23 : a2 = 0
      · rw [if_pos c23] at H
        have c23b0 : (a2 == 0) = true := beq_iff_eq.mpr c23
        have c23b1 : (a2 != 0) = false := bne_eq_false_iff_eq.mpr c23
        clear c23
        simp only [Option.some.injEq, Prod.mk.injEq] at H
        obtain ⟨rfl, rfl⟩ := H
        go_wp2
        go_ret2
        exact ⟨by first | rfl | (simp; done) | (simp [*]; done), by repeat (first | exact Drawn0.refl _ | apply Drawn0.step)⟩
      · rw [if_neg c23] at H
        have c23b0 : (a2 == 0) = false := beq_eq_false_iff_ne.mpr c23
        have c23b1 : (a2 != 0) = true := bne_iff_ne.mpr c23
        by_cases c24 : a0 = 7
        · rw [if_pos c24] at H
          have c24b0 : (a0 == 7) = true := beq_iff_eq.mpr c24
          have c24b1 : (a0 != 7) = false := bne_eq_false_iff_eq.mpr c24
          clear c24
          simp only [Option.some.injEq, Prod.mk.injEq] at H
          obtain ⟨rfl, rfl⟩ := H
          go_wp2
          go_ret2
          exact ⟨by first | rfl | (simp; done) | (simp [*]; done), by repeat (first | exact Drawn0.refl _ | apply Drawn0.step)⟩
        · rw [if_neg c24] at H
          have c24b0 : (a0 == 7) = false := beq_eq_false_iff_ne.mpr c24
          have c24b1 : (a0 != 7) = true := bne_iff_ne.mpr c24
          simp only [Option.some.injEq, Prod.mk.injEq] at H
          obtain ⟨rfl, rfl⟩ := H
          go_wp2
          go_ret2
          exact ⟨by first | rfl | (simp; done) | (simp [*]; done), by repeat (first | exact Drawn0.refl _ | apply Drawn0.step)⟩

-- NOT PRINTED: function 35 (stack_machine_op)

/-! ### stack_one: function 36 -/
def stack_one.f (a0 : Bool) : Option (Int) := if a0 = true then (some 1) else (some 0)
set_option maxHeartbeats 8000000 in
set_option maxRecDepth 100000 in
theorem stack_one.calls (a0 : Bool) (r : Int) (w : World) (h : stack_one.f a0 = some r) :
    Calls Try.prog 36 #[.bool a0] w fun e w' => e = .returned (.int .i64 r) ∧ Drawn0 w w' := by
  have H : (if a0 = true then (some 1) else (some 0)) = some r := h
  clear h
  by_cases c2 : a0 = true
  · subst c2
    have H1 : (some 1) = some r := by rw [if_pos rfl] at H; exact H
    clear H
    have H := H1
    clear H1
    obtain rfl := Option.some.inj H
    go_enter Try.func36, Try.ntmps36
    go_wp2
    go_ret
    exact ⟨by first | rfl | (simp; done) | (simp [*]; done), by repeat (first | exact Drawn0.refl _ | apply Drawn0.step)⟩
  · replace c2 := Bool.eq_false_iff.mpr c2
    subst c2
    have H1 : (some 0) = some r := by rw [if_neg (show ¬ (false = true) by decide)] at H; exact H
    clear H
    have H := H1
    clear H1
    obtain rfl := Option.some.inj H
    go_enter Try.func36, Try.ntmps36
    go_wp2
    go_ret
    exact ⟨by first | rfl | (simp; done) | (simp [*]; done), by repeat (first | exact Drawn0.refl _ | apply Drawn0.step)⟩

-- NOT PRINTED: function 51 (slices_Clone_uint32_uint32)

-- NOT PRINTED: function 37 (stack_pile_uint32_take)

-- NOT PRINTED: function 52 (stack_frame_pop)

-- NOT PRINTED: function 38 (stack_machine_back)

-- NOT PRINTED: function 39 (stack_machine_byte)

-- NOT PRINTED: function 21 (stack_machine_do)

-- NOT PRINTED: function 10 (stack_Run)

/-! ### bits_Mul32: function 57 -/
def bits_Mul32.f (a0 : Int) (a1 : Int) : Option (Int × Int) := some (((IntKind.u64.wrap ((IntKind.u64.wrap (a0)) * (IntKind.u64.wrap (a1)))) / 4294967296) % 4294967296, (IntKind.u64.wrap ((IntKind.u64.wrap (a0)) * (IntKind.u64.wrap (a1)))) % 4294967296)
set_option maxHeartbeats 8000000 in
set_option maxRecDepth 100000 in
theorem bits_Mul32.calls (a0 : Int) (a1 : Int) (r1 : Int) (r2 : Int) (w : World) (h : bits_Mul32.f a0 a1 = some (r1, r2)) :
    Calls Try.prog 57 #[.int .u32 a0, .int .u32 a1] w fun e w' => e = .returned (.tuple #[.int .u32 r1, .int .u32 r2]) ∧ Drawn0 w w' := by
  have H : (some (((IntKind.u64.wrap ((IntKind.u64.wrap (a0)) * (IntKind.u64.wrap (a1)))) / 4294967296) % 4294967296, (IntKind.u64.wrap ((IntKind.u64.wrap (a0)) * (IntKind.u64.wrap (a1)))) % 4294967296)) = some (r1, r2) := h
  clear h
  simp only [Option.some.injEq, Prod.mk.injEq] at H
  obtain ⟨rfl, rfl⟩ := H
  go_enter Try.func57, Try.ntmps57
  go_wp2
  go_ret2
  exact ⟨by first | rfl | (simp; done) | (simp [*]; done), by repeat (first | exact Drawn0.refl _ | apply Drawn0.step)⟩

/-! ### bits_Mul64: function 58 -/
def bits_Mul64.f (a0 : Int) (a1 : Int) : Option (Int × Int) := some (IntKind.u64.wrap ((IntKind.u64.wrap ((IntKind.u64.wrap ((a0 / 4294967296) * (a1 / 4294967296))) + ((IntKind.u64.wrap ((IntKind.u64.wrap ((a0 / 4294967296) * (Go.bits .and .u64 a1 4294967295))) + ((IntKind.u64.wrap ((Go.bits .and .u64 a0 4294967295) * (Go.bits .and .u64 a1 4294967295))) / 4294967296))) / 4294967296))) + ((IntKind.u64.wrap ((Go.bits .and .u64 (IntKind.u64.wrap ((IntKind.u64.wrap ((a0 / 4294967296) * (Go.bits .and .u64 a1 4294967295))) + ((IntKind.u64.wrap ((Go.bits .and .u64 a0 4294967295) * (Go.bits .and .u64 a1 4294967295))) / 4294967296))) 4294967295) + (IntKind.u64.wrap ((Go.bits .and .u64 a0 4294967295) * (a1 / 4294967296))))) / 4294967296)), IntKind.u64.wrap (a0 * a1))
set_option maxHeartbeats 8000000 in
set_option maxRecDepth 100000 in
theorem bits_Mul64.calls (a0 : Int) (a1 : Int) (r1 : Int) (r2 : Int) (w : World) (h : bits_Mul64.f a0 a1 = some (r1, r2)) :
    Calls Try.prog 58 #[.int .u64 a0, .int .u64 a1] w fun e w' => e = .returned (.tuple #[.int .u64 r1, .int .u64 r2]) ∧ Drawn0 w w' := by
  have H : (some (IntKind.u64.wrap ((IntKind.u64.wrap ((IntKind.u64.wrap ((a0 / 4294967296) * (a1 / 4294967296))) + ((IntKind.u64.wrap ((IntKind.u64.wrap ((a0 / 4294967296) * (Go.bits .and .u64 a1 4294967295))) + ((IntKind.u64.wrap ((Go.bits .and .u64 a0 4294967295) * (Go.bits .and .u64 a1 4294967295))) / 4294967296))) / 4294967296))) + ((IntKind.u64.wrap ((Go.bits .and .u64 (IntKind.u64.wrap ((IntKind.u64.wrap ((a0 / 4294967296) * (Go.bits .and .u64 a1 4294967295))) + ((IntKind.u64.wrap ((Go.bits .and .u64 a0 4294967295) * (Go.bits .and .u64 a1 4294967295))) / 4294967296))) 4294967295) + (IntKind.u64.wrap ((Go.bits .and .u64 a0 4294967295) * (a1 / 4294967296))))) / 4294967296)), IntKind.u64.wrap (a0 * a1))) = some (r1, r2) := h
  clear h
  simp only [Option.some.injEq, Prod.mk.injEq] at H
  obtain ⟨rfl, rfl⟩ := H
  go_enter Try.func58, Try.ntmps58
  go_wp2
  go_ret2
  exact ⟨by first | rfl | (simp; done) | (simp [*]; done), by repeat (first | exact Drawn0.refl _ | apply Drawn0.step)⟩

/-! ### bits_Mul: function 49 -/
def bits_Mul.f (a0 : Int) (a1 : Int) : Option (Int × Int) := (bits_Mul64.f a0 a1).bind fun bt109 => (some (bt109.1, bt109.2))
set_option maxHeartbeats 8000000 in
set_option maxRecDepth 100000 in
theorem bits_Mul.calls (a0 : Int) (a1 : Int) (r1 : Int) (r2 : Int) (w : World) (h : bits_Mul.f a0 a1 = some (r1, r2)) :
    Calls Try.prog 49 #[.int .u64 a0, .int .u64 a1] w fun e w' => e = .returned (.tuple #[.int .u64 r1, .int .u64 r2]) ∧ Drawn0 w w' := by
  have H : ((bits_Mul64.f a0 a1).bind fun bt109 => (some (bt109.1, bt109.2))) = some (r1, r2) := h
  clear h
  replace H := Option.bind_eq_some_iff.mp H
  obtain ⟨⟨t109, t110⟩, A30, H⟩ := H
  replace H : (some (t109, t110)) = some (r1, r2) := H
  have A3 := Aside0.mk A30
  clear A30
  simp only [Option.some.injEq, Prod.mk.injEq] at H
  obtain ⟨rfl, rfl⟩ := H
  go_enter Try.func49, Try.ntmps49
  go_wp2_with (first | ((with_reducible refine gate_callee (f := 58) rfl ?_); refine goesL_ (some 25) rfl rfl Try.func58 (by kernel_rfl) rfl #[.int .u64 a0, .int .u64 a1] rfl (by (try simp only [List.map_toArray, List.map_cons, List.map_nil]); first | done | rfl | (simp only [List.length_drop, List.length_take]; rfl)) ?_; (with_reducible refine (bits_Mul64.calls a0 a1 t109 t110 _ A3.out).mono ?_); rintro e w' ⟨rfl, ⟨nd, rfl⟩⟩; refine ⟨_, rfl, ?_⟩))
  go_ret2
  exact ⟨by first | rfl | (simp; done) | (simp [*]; done), by repeat (first | exact Drawn0.refl _ | apply Drawn0.step)⟩

-- NOT PRINTED: function 28 (slices_Repeat_int_int)

end Go.Proofs.Ytlngcolnjgloaaa.PStackRuns
