/- The reference's Right answers; where it says yes the program may be. Conditions: functions of at most 1000000 instructions. -/
import Derived.Test.YtlngcolnjgloaaaRdp
import Derived.Test.YtlngcolnjgloaaaRft
import Derived.Test.YtlngcolnjgloaaaRgt
namespace Go.Proofs.Ytlngcolnjgloaaa
set_option linter.unusedVariables false
set_option linter.unusedSimpArgs false
open Go.RowKit Go.Proofs.YtlngcolnjgloaaaW.PrintWords PStackRuns

theorem rf_no {w w' : World} {P : Prop} (h : Below w.heap.size w w') : RfPost w P (.returned (.bool false)) w' := ⟨false, rfl, fun h => absurd h (by decide), h⟩

set_option maxHeartbeats 4000000 in
set_option maxRecDepth 100000 in
theorem rrt_any (w0 : World) (sw : Int) (SA : Option Addr) (fs : List S28) (sc : Nat) (hC : k28.C w0 SA fs.length fs) (hsc : fs.length ≤ sc) (hcd : ∀ f : Nat, f < fs.length → (rd_T28 fs (f : Int)).f4.length ≤ 1000000) :
    Calls Try.prog 15 #[.agg #[.int .i64 sw, .slice SA fs.length sc]] w0 (RfPost w0 (rightP sw fs)) := by
  have hB1 : Below w0.heap.size w0 (w0.alloc (.cells #[.int .i64 sw, .slice SA fs.length sc] 31)) := (Below.refl _ _).alloc (Nat.le_refl _) _
  by_cases g0 : sw < 0
  · have d0 : decide (sw < 0) = true := decide_eq_true g0
    go_enter Try.func15, Try.ntmps15
    go_wp2_with fail
    go_ret
    exact rf_no hB1
  have d0 : decide (sw < 0) = false := decide_eq_false g0
  by_cases g1 : 32768 < sw
  · have d1 : decide ((32768 : Int) < sw) = true := decide_eq_true g1
    go_enter Try.func15, Try.ntmps15
    go_wp2_with fail
    go_ret
    exact rf_no hB1
  have d1 : decide ((32768 : Int) < sw) = false := decide_eq_false g1
  by_cases g2 : (fs.length : Int) < 1
  · have d2 : decide ((fs.length : Int) < 1) = true := decide_eq_true g2
    go_enter Try.func15, Try.ntmps15
    go_wp2_with fail
    go_ret
    exact rf_no hB1
  have d2 : decide ((fs.length : Int) < 1) = false := decide_eq_false g2
  by_cases g3 : (64 : Int) < (fs.length : Int)
  · have d3 : decide ((64 : Int) < (fs.length : Int)) = true := decide_eq_true g3
    go_enter Try.func15, Try.ntmps15
    go_wp2_with fail
    go_ret
    exact rf_no hB1
  have d3 : decide ((64 : Int) < (fs.length : Int)) = false := decide_eq_false g3
  obtain ⟨ad, hSA⟩ : ∃ ad, SA = some ad := by
    obtain ⟨ad, _, _, hSA, _⟩ := at_T28 hC 0 (by omega) (by omega)
    exact ⟨ad, hSA⟩
  subst hSA
  obtain ⟨W1, hW1⟩ : ∃ W1, W1 = w0.alloc (.cells #[.int .i64 sw, .slice (some ad) fs.length sc] 31) := ⟨_, rfl⟩
  have hbox : W1.heap[w0.heap.size]? = some (.cells #[.int .i64 sw, .slice (some ad) fs.length sc] 31 (0, 0)) := by rw [hW1]; exact heap_alloc_new _ _
  rw [← hW1] at hB1
  have HC := Lib.hid hC
  have HCD := Lib.hid hcd
  have E1 := Lib.hid hW1
  have HB1 := Lib.hid hB1
  have HBX := Lib.hid hbox
  have b0 : W1.cell? ⟨w0.heap.size, 0, none⟩ = some (.int .i64 sw) := by rw [blk_cell hbox]; rfl
  have b1 : W1.cell? ⟨w0.heap.size, 1, none⟩ = some (.slice (some ad) fs.length sc) := by rw [blk_cell hbox]; rfl
  clear hC hcd hW1 hB1 hbox
  go_enter Try.func15, Try.ntmps15
  go_upto_region 1 with (fail)
  rw [← E1.out]
  go_wp2_with fail
  clear b0 b1 d0 d1 d2 d3
  go_loopw [3] (fun v w' => ∃ j : Nat, j ≤ fs.length ∧ v = .int .i64 (j : Int) ∧ RowKit.Hid (∀ f : Nat, f < j → funP sw fs (f : Int)) ∧ RowKit.Hid (w'.heap[w0.heap.size]? = some (.cells #[.int .i64 sw, .slice (some ad) fs.length sc] 31 (0, 0))) ∧ RowKit.Hid (Below w0.heap.size w0 w')) (fun v _ => fs.length - (intOf v).toNat)
  case atStart => exact ⟨0, Nat.zero_le _, rfl, Lib.hid (fun f hf => by omega), HBX, HB1⟩
  case round =>
    obtain ⟨wo, rfl⟩ : ∃ wo, wo = wr := ⟨wr, rfl⟩
    obtain ⟨j, hjn, rfl, hfj, hbx, hb⟩ := hrel
    have b0 : wo.cell? ⟨w0.heap.size, 0, none⟩ = some (.int .i64 sw) := by rw [blk_cell hbx.out]; rfl
    have b1 : wo.cell? ⟨w0.heap.size, 1, none⟩ = some (.slice (some ad) fs.length sc) := by rw [blk_cell hbx.out]; rfl
    by_cases hj : j < fs.length
    · have hj0 : decide ((j : Int) < (fs.length : Int)) = true := decide_eq_true (by omega)
      have p0 : (0 : Int) ≤ (j : Int) := by omega
      have p1 : (j : Int) < (fs.length : Int) := by omega
      have HC3 := Lib.hid (Kd.C_below HC.out hb.out)
      obtain ⟨ad', A4, c4, hSA, q0, q1, q2, q3, q4, l4, g4⟩ := at_T28 HC3.out (j : Int) p0 p1
      injection hSA with hSA
      subst hSA
      have hcl := HCD.out j hj
      obtain ⟨g, hg⟩ : ∃ g, g = rd_T28 fs (j : Int) := ⟨_, rfl⟩
      rw [← hg] at q0 q1 q2 q3 q4 l4 g4 hcl
      rw [Int.toNat_natCast] at q0 q1 q2 q3 q4
      have H4 := Lib.hid (And.intro l4 g4)
      have HG := Lib.hid hg
      clear l4 g4 hg
      go_upto_region 7 with (fail)
      obtain ⟨W2, hW2⟩ : ∃ W2, W2 = wo.alloc (.cells #[.int .i64 g.f0, .int .i64 g.f1, .int .i64 g.f2, .bool g.f3, .slice A4 g.f4.length c4] 28) := ⟨_, rfl⟩
      rw [← hW2]
      have hB2 : Below wo.heap.size wo W2 := by rw [hW2]; exact (Below.refl _ _).alloc (Nat.le_refl _) _
      have hfb : W2.heap[wo.heap.size]? = some (.cells #[.int .i64 g.f0, .int .i64 g.f1, .int .i64 g.f2, .bool g.f3, .slice A4 g.f4.length c4] 28 (0, 0)) := by rw [hW2]; exact heap_alloc_new _ _
      have hbox2 := blk_below hbx.out hB2
      have HB2 := Lib.hid (below_then hb.out hb.out.size hB2)
      have HFB := Lib.hid hfb
      have HBX2 := Lib.hid hbox2
      have HB2' := Lib.hid hB2
      clear q0 q1 q2 q3 q4 b0 b1 hW2 hB2
      have b0 : W2.cell? ⟨w0.heap.size, 0, none⟩ = some (.int .i64 sw) := by rw [blk_cell hbox2]; rfl
      have b1 : W2.cell? ⟨w0.heap.size, 1, none⟩ = some (.slice (some ad) fs.length sc) := by rw [blk_cell hbox2]; rfl
      have f0 : W2.cell? ⟨wo.heap.size, 0, none⟩ = some (.int .i64 g.f0) := by rw [blk_cell hfb]; rfl
      have f1 : W2.cell? ⟨wo.heap.size, 1, none⟩ = some (.int .i64 g.f1) := by rw [blk_cell hfb]; rfl
      have f2 : W2.cell? ⟨wo.heap.size, 2, none⟩ = some (.int .i64 g.f2) := by rw [blk_cell hfb]; rfl
      have f4 : W2.cell? ⟨wo.heap.size, 4, none⟩ = some (.slice A4 g.f4.length c4) := by rw [blk_cell hfb]; rfl
      clear hfb hbox2
      by_cases k0 : g.f0 < 0
      · have d0 : decide (g.f0 < 0) = true := decide_eq_true k0
        go_wp2_with fail
        go_ret
        exact rf_no HB2.out
      have d0 : decide (g.f0 < 0) = false := decide_eq_false k0
      by_cases k1 : g.f1 < g.f0
      · have d1 : decide (g.f1 < g.f0) = true := decide_eq_true k1
        go_wp2_with fail
        go_ret
        exact rf_no HB2.out
      have d1 : decide (g.f1 < g.f0) = false := decide_eq_false k1
      by_cases k2 : g.f2 < 0
      · have d2 : decide (g.f2 < 0) = true := decide_eq_true k2
        go_wp2_with fail
        go_ret
        exact rf_no HB2.out
      have d2 : decide (g.f2 < 0) = false := decide_eq_false k2
      by_cases k3 : sw < g.f1
      · have d3 : decide (sw < g.f1) = true := decide_eq_true k3
        go_wp2_with fail
        go_ret
        exact rf_no HB2.out
      have d3 : decide (sw < g.f1) = false := decide_eq_false k3
      have d5 : IntKind.i64.wrap (sw - g.f1) = sw - g.f1 := IntWalk.i64_in _ (by omega)
      by_cases k4 : sw - g.f1 < g.f2
      · have d4 : decide (sw - g.f1 < g.f2) = true := decide_eq_true k4
        go_wp2_with fail
        go_ret
        exact rf_no HB2.out
      have d4 : decide (sw - g.f1 < g.f2) = false := decide_eq_false k4
      go_wp2_with fail
      clear b0 b1 f0 f1 f2 f4 d0 d1 d2 d3 d4 d5
      go_loopw [5] (fun v w' => ∃ i : Nat, i ≤ g.f4.length ∧ v = .int .i64 (i : Int) ∧ RowKit.Hid (∀ x ∈ g.f4.take i, fitP sw fs (j : Int) x) ∧ RowKit.Hid (Below W2.heap.size W2 w')) (fun v _ => g.f4.length - (intOf v).toNat)
      case atStart => exact ⟨0, Nat.zero_le _, rfl, Lib.hid (by simp), Lib.hid (Below.refl _ _)⟩
      case round =>
        obtain ⟨wi, rfl⟩ : ∃ wi, wi = wr := ⟨wr, rfl⟩
        obtain ⟨i, hin, rfl, hfi, hbi⟩ := hrel
        have HBI := Lib.hid (below_then HB2.out HB2.out.size hbi.out)
        have hbx4 := blk_below HBX2.out hbi.out
        have hfb4 := blk_below HFB.out hbi.out
        have b0 : wi.cell? ⟨w0.heap.size, 0, none⟩ = some (.int .i64 sw) := by rw [blk_cell hbx4]; rfl
        have b1 : wi.cell? ⟨w0.heap.size, 1, none⟩ = some (.slice (some ad) fs.length sc) := by rw [blk_cell hbx4]; rfl
        have f4 : wi.cell? ⟨wo.heap.size, 4, none⟩ = some (.slice A4 g.f4.length c4) := by rw [blk_cell hfb4]; rfl
        have HC4 := Lib.hid (Kd.C_below HC.out HBI.out)
        by_cases hi : i < g.f4.length
        · have hi0 : decide ((i : Int) < (g.f4.length : Int)) = true := decide_eq_true (by omega)
          have p3 : (0 : Int) ≤ (i : Int) := by omega
          have p4 : (i : Int) < (g.f4.length : Int) := by omega
          have hC4 := Kd.C_below (Kd.C_below H4.out.2 HB2'.out) hbi.out
          obtain ⟨ai, hAi, x0, x1, x2, x3⟩ := at_T25 hC4 (i : Int) p3 p4
          clear hC4
          subst hAi
          obtain ⟨c, hc⟩ : ∃ c, c = rd_T25 g.f4 (i : Int) := ⟨_, rfl⟩
          have hci : g.f4.take (i + 1) = g.f4.take i ++ [c] := by
            rw [List.take_add_one, hc]
            simp [rd_T25, rdOf, List.getD_eq_getElem?_getD, hi]
          rw [← hc] at x0 x1 x2 x3
          rw [Int.toNat_natCast] at x0 x1 x2 x3
          have HCI := Lib.hid hci
          have hi1 : IntKind.i64.wrap ((i : Int) + 1) = (i : Int) + 1 := IntWalk.i64_in _ (by omega)
          have HK := Lib.hid (show ∀ w5 : World, Below wi.heap.size wi w5 → w5.cell? ⟨w0.heap.size, 0, none⟩ = some (.int .i64 sw) ∧ w5.cell? ⟨w0.heap.size, 1, none⟩ = some (.slice (some ad) fs.length sc) ∧ w5.cell? ⟨wo.heap.size, 4, none⟩ = some (.slice (some ai) g.f4.length c4) ∧ w5.cell? (ai.add (i * 4)) = some (.int .i64 c.f0) ∧ w5.cell? ⟨(ai.add (i * 4)).block, (ai.add (i * 4)).off + 1, none⟩ = some (.int .i64 c.f1) ∧ w5.cell? ⟨(ai.add (i * 4)).block, (ai.add (i * 4)).off + 2, none⟩ = some (.int .i64 c.f2) ∧ w5.cell? ⟨(ai.add (i * 4)).block, (ai.add (i * 4)).off + 3, none⟩ = some (.int .u32 c.f3) from fun w5 h => ⟨pw_cell_below h b0, pw_cell_below h b1, pw_cell_below h f4, pw_cell_below h x0, pw_cell_below h x1, pw_cell_below h x2, pw_cell_below h x3⟩)
          clear hc hci x0 x1 x2 x3 hbx4 hfb4
          go_upto_region 12 with (fail)
          clear b0 b1 f4
          go_region_held3 (fun W => W.cell? ⟨w0.heap.size, 0, none⟩ = some (.int .i64 sw) ∧ W.cell? ⟨w0.heap.size, 1, none⟩ = some (.slice (some ad) fs.length sc) ∧ W.cell? ⟨wo.heap.size, 4, none⟩ = some (.slice (some ai) g.f4.length c4) ∧ W.cell? (ai.add (i * 4)) = some (.int .i64 c.f0) ∧ W.cell? ⟨(ai.add (i * 4)).block, (ai.add (i * 4)).off + 1, none⟩ = some (.int .i64 c.f1) ∧ W.cell? ⟨(ai.add (i * 4)).block, (ai.add (i * 4)).off + 2, none⟩ = some (.int .i64 c.f2) ∧ W.cell? ⟨(ai.add (i * 4)).block, (ai.add (i * 4)).off + 3, none⟩ = some (.int .u32 c.f3)) (first | exact HK.out _ (Below.refl _ _).drew | exact HK.out _ (by assumption)) (first | (go_at_call 25; refine (rft_any _ sw _ fs sc (j : Int) c (Kd.C_below HC4.out (Below.refl _ _).drew) (by omega) (by omega) p0 p1).mono ?_; rintro e w5 ⟨r, rfl, hr, hb5⟩; have hb6 := below_then (Below.refl wi.heap.size wi).drew (Nat.le_refl _) hb5))
          clear HK
          cases r with
          | false =>
            go_wp2_with fail
            go_ret
            exact rf_no (below_then HBI.out HBI.out.size hb6)
          | true =>
            have HFN := Lib.hid (show ∀ x ∈ g.f4.take (i + 1), fitP sw fs (j : Int) x from by
              rw [HCI.out]
              intro x hx
              rcases List.mem_append.1 hx with hx | hx
              · exact hfi.out x hx
              · have e : x = c := by simpa using hx
                rw [e]; exact hr rfl)
            have HBN := Lib.hid (below_then hbi.out hbi.out.size hb6)
            clear hr hb5 hb6
            go_wp2_with fail
            go_roundw
            case rel => exact ⟨i + 1, by omega, by go_num, HFN, HBN⟩
            case measure => simp [intOf]; omega
        · have hi0 : decide ((i : Int) < (g.f4.length : Int)) = false := decide_eq_false (by omega)
          have hfa : ∀ x ∈ g.f4, fitP sw fs (j : Int) x := by
            have := hfi.out
            rw [List.take_of_length_le (by omega)] at this
            exact this
          have HFA := Lib.hid hfa
          clear hfa
          obtain ⟨K, r1, r2, hd, hdep⟩ := rdep_f sw fs (j : Int) p0 p1 (HCD.out j hj)
          have HD := Lib.hid hd
          have HDP := Lib.hid hdep
          clear hd hdep hbx4 hfb4
          go_wp2_with (go_at_call 26; refine (seedcornref20_Depths.calls K sw _ sc fs (j : Int) r1 r2 wi HC4.out hsc HD.out).mono ?_; rintro e w5 ⟨v5, rfl, _, hb5⟩; have HB5 := Lib.hid (below_then HBI.out HBI.out.size hb5); have HBX5 := Lib.hid (blk_below (blk_below HBX2.out hbi.out) hb5); clear hb5 b0 b1 f4; cases r2)
          · go_ret
            exact rf_no HB5.out
          · have HFN := Lib.hid (show ∀ f : Nat, f < j + 1 → funP sw fs (f : Int) from fun f hf => by
              by_cases e : f = j
              · subst e
                unfold funP
                rw [← HG.out]
                obtain ⟨K', hK'⟩ := HDP.out (by trivial)
                exact ⟨by omega, by omega, by omega, by omega, by omega, HFA.out, K', r1, hK'⟩
              · exact hfj.out f (by omega))
            have hj1 : IntKind.i64.wrap ((j : Int) + 1) = (j : Int) + 1 := IntWalk.i64_in _ (by omega)
            go_wp2_with fail
            go_roundw
            case rel => exact ⟨j + 1, by omega, by go_num, HFN, HBX5, HB5⟩
            case measure => simp [intOf]; omega
    · have hj0 : decide ((j : Int) < (fs.length : Int)) = false := decide_eq_false (by omega)
      have ej : j = fs.length := by omega
      have hfa := hfj.out
      rw [ej] at hfa
      have HFA := Lib.hid hfa
      clear hfa ej
      have p0 : (0 : Int) ≤ (fs.length : Int) - 1 := by omega
      have p1 : (fs.length : Int) - 1 < (fs.length : Int) := by omega
      have p2 : decide ((fs.length : Int) - 1 < (fs.length : Int)) = true := decide_eq_true p1
      have p3 : decide ((0 : Int) ≤ (fs.length : Int) - 1) = true := decide_eq_true p0
      have d4 : IntKind.i64.wrap ((fs.length : Int) - 1) = (fs.length : Int) - 1 := IntWalk.i64_in _ (by omega)
      obtain ⟨ad', A4, c4, hSA, q0, q1, q2, q3, q4, _, _⟩ := at_T28 (Kd.C_below HC.out hb.out) ((fs.length : Int) - 1) p0 p1
      injection hSA with hSA
      subst hSA
      rw [show ((fs.length : Int) - 1).toNat = fs.length - 1 from by omega] at q0 q1 q2 q3 q4
      obtain ⟨g, hg⟩ : ∃ g, g = rd_T28 fs ((fs.length : Int) - 1) := ⟨_, rfl⟩
      rw [← hg] at q0 q1 q2 q3 q4
      have HG := Lib.hid hg
      clear hg
      go_upto_region 18 with (fail)
      obtain ⟨W2, hW2⟩ : ∃ W2, W2 = wo.alloc (.cells #[.int .i64 g.f0, .int .i64 g.f1, .int .i64 g.f2, .bool g.f3, .slice A4 g.f4.length c4] 28) := ⟨_, rfl⟩
      rw [← hW2]
      have hB2 : Below wo.heap.size wo W2 := by rw [hW2]; exact (Below.refl _ _).alloc (Nat.le_refl _) _
      have hfb : W2.heap[wo.heap.size]? = some (.cells #[.int .i64 g.f0, .int .i64 g.f1, .int .i64 g.f2, .bool g.f3, .slice A4 g.f4.length c4] 28 (0, 0)) := by rw [hW2]; exact heap_alloc_new _ _
      have HB2 := Lib.hid (below_then hb.out hb.out.size hB2)
      clear q0 q1 q2 q3 q4 b0 b1 hW2 hB2
      have f0 : W2.cell? ⟨wo.heap.size, 0, none⟩ = some (.int .i64 g.f0) := by rw [blk_cell hfb]; rfl
      have f3 : W2.cell? ⟨wo.heap.size, 3, none⟩ = some (.bool g.f3) := by rw [blk_cell hfb]; rfl
      clear hfb
      by_cases e0 : g.f0 = 0
      · have e1 : (g.f0 == 0) = true := by simpa using e0
        go_wp2_with fail
        go_ret
        refine ⟨_, rfl, fun h => ?_, HB2.out⟩
        have h' : g.f3 = false := by simpa using h
        exact ⟨by omega, by omega, by omega, by omega, HFA.out, by rw [← HG.out]; exact e0, by rw [← HG.out]; exact h'⟩
      · have e1 : (g.f0 == 0) = false := by simpa using e0
        go_wp2_with fail
        go_ret
        exact rf_no HB2.out
end Go.Proofs.Ytlngcolnjgloaaa
