/- The contract of stack.Depths. Conditions: at most 1000000 instructions. -/
import Derived.Test.YtlngcolnjgloaaaDpp
import Derived.Test.YtlngcolnjgloaaaWQPut
import Derived.Deep.CutRange
namespace Go.Proofs.Ytlngcolnjgloaaa
set_option linter.unusedVariables false
set_option linter.unusedSimpArgs false
open Go.RowKit Go.Proofs.YtlngcolnjgloaaaW.PrintWords PStackRuns

def DepPost (w : World) (r1 : List Int) (r2 : Bool) (e : Ending) (w' : World) : Prop := ∃ v, e = .returned (.tuple #[v, .bool r2]) ∧ Kd.R (Kd.int .i64) 3 w' w.heap.size (fun _ => True) v r1 ∧ Below w.heap.size w w'

set_option maxHeartbeats 1000000 in
set_option maxRecDepth 100000 in
theorem depths_any (w0 : World) (sw : Int) (SA : Option Addr) (sc : Nat) (fs : List S28) (f : Int) (K : Nat) (r1 : List Int) (r2 : Bool) (hC : k28.C w0 SA fs.length fs) (hsc : fs.length ≤ sc) (hd : depthsF fs f K = some (r1, r2)) :
    Calls Try.prog 18 #[.agg #[.int .i64 sw, .slice SA fs.length sc], .int .i64 f] w0 (DepPost w0 r1 r2) := by
  unfold depthsF at hd
  split at hd
  case isFalse => cases hd
  rename_i hf
  obtain ⟨hf0, hf1⟩ := hf
  split at hd
  case isFalse => cases hd
  rename_i hn
  obtain ⟨hn0, hn1⟩ := hn
  obtain ⟨g, hg⟩ : ∃ g, g = rd_T28 fs f := ⟨_, rfl⟩
  obtain ⟨ad, A4, c4, hSA, q0, q1, q2, q3, q4, l4, g4⟩ := at_T28 hC f hf0 hf1
  subst hSA
  rw [← hg] at hd hn0 hn1 q0 q1 q2 q3 q4 l4 g4
  obtain ⟨n, hnn⟩ : ∃ n, n = g.f4.length := ⟨_, rfl⟩
  have p0 : (0 : Int) ≤ f := hf0
  have p1 : f < (fs.length : Int) := hf1
  have d1 : decide (f < 0) = false := decide_eq_false (by omega)
  have d2 : decide ((fs.length : Int) ≤ f) = false := decide_eq_false (by omega)
  have d3 : ((g.f4.length : Int) == 0) = false := by
    have : (g.f4.length : Int) ≠ 0 := by omega
    simpa using this
  have HC := Lib.hid hC
  have HD := Lib.hid hd
  have HN := Lib.hid (And.intro hn0 hn1)
  have H4 := Lib.hid (And.intro l4 g4)
  have HG := Lib.hid hg
  clear hC hd hn0 hn1 l4 g4 hg hf0 hf1
  obtain ⟨W1, hW1⟩ : ∃ W1, W1 = w0.alloc (.cells #[.int .i64 sw, .slice (some ad) fs.length sc] 31) := ⟨_, rfl⟩
  have hB1 : Below w0.heap.size w0 W1 := by rw [hW1]; exact (Below.refl _ _).alloc (Nat.le_refl _) _
  have hbox : W1.heap[w0.heap.size]? = some (.cells #[.int .i64 sw, .slice (some ad) fs.length sc] 31 (0, 0)) := by rw [hW1]; exact heap_alloc_new _ _
  have q0 := pw_cell_below hB1 q0
  have q1 := pw_cell_below hB1 q1
  have q2 := pw_cell_below hB1 q2
  have q3 := pw_cell_below hB1 q3
  have q4 := pw_cell_below hB1 q4
  have b0 : W1.cell? ⟨w0.heap.size, 0, none⟩ = some (.int .i64 sw) := by rw [blk_cell hbox]; rfl
  have b1 : W1.cell? ⟨w0.heap.size, 1, none⟩ = some (.slice (some ad) fs.length sc) := by rw [blk_cell hbox]; rfl
  have HB1 := Lib.hid hB1
  have HBOX := Lib.hid hbox
  have E1 := Lib.hid hW1
  clear hB1 hbox hW1
  go_enter Try.func18, Try.ntmps18
  go_upto_region 1 with (fail)
  rw [← E1.out]
  obtain ⟨V1, hV1⟩ : ∃ V, V = (W1.alloc (.cells #[.int .i64 g.f0, .int .i64 g.f1, .int .i64 g.f2, .bool g.f3, .slice A4 g.f4.length c4] 28)).alloc (.cells #[.int .i64 (-1)] 3) := ⟨_, rfl⟩
  have hone : V1.heap[W1.heap.size + 1]? = some (.cells #[.int .i64 (-1)] 3 (0, 0)) := by rw [hV1]; exact (congrArg (fun k => (World.alloc _ _).heap[k]?) (by simp)).trans (heap_alloc_new (W1.alloc (.cells #[.int .i64 g.f0, .int .i64 g.f1, .int .i64 g.f2, .bool g.f3, .slice A4 g.f4.length c4] 28)) _)
  have hfb : V1.heap[W1.heap.size]? = some (.cells #[.int .i64 g.f0, .int .i64 g.f1, .int .i64 g.f2, .bool g.f3, .slice A4 g.f4.length c4] 28 (0, 0)) := by
    rw [hV1]
    exact blk_alloc (heap_alloc_new W1 _) _
  have hB2 : Below W1.heap.size W1 V1 := by rw [hV1]; exact ((Below.refl _ _).alloc (Nat.le_refl _) _).alloc (by simp) _
  have HB2 := Lib.hid hB2
  have HONE := Lib.hid hone
  have HFB := Lib.hid hfb
  have EV := Lib.hid hV1
  clear hone hfb hB2 hV1
  have e0 : decide ((0 : Int) < (g.f4.length : Int)) = true := decide_eq_true (by have := HN.out; omega)
  have e1 : decide (0 < g.f4.length) = true := decide_eq_true (by have := HN.out; omega)
  have e2 : (0 < g.f4.length) = True := eq_true HN.out.1
  have HI := Lib.hid (show ∀ (w2 : World) (g7 : Nat), V1.heap.size ≤ g7 → w2.heap[g7]? = some (.cells (nums .i64 (List.replicate g.f4.length (-1))).toArray 3 (0, 0)) → Below V1.heap.size V1 w2 → DInv w0 w2 w0.heap.size W1.heap.size g7 sw (some ad) sc fs g A4 c4 (List.replicate g.f4.length (-1)) ∧ w2.cell? ⟨g7, 0, none⟩ = some (.int .i64 (-1)) ∧ w2.frozen? ⟨g7, 0, none⟩ = false from by
    intro w2 g7 h1 h2 h3
    have hl0 := blk_lt HFB.out
    have z1 := HB1.out.size
    have z2 := HB2.out.size
    refine ⟨⟨below_then (below_then HB1.out HB1.out.size HB2.out) (by omega) h3, blk_below (blk_below HBOX.out HB2.out) h3, blk_below HFB.out h3, h2, by simp, by omega⟩, ?_, blk_frozen h2 0⟩
    rw [blk_cell h2]
    have := HN.out.1
    simp [nums, this])
  go_wp2_with (go_at_call 28; rw [← EV.out]; refine (repeat_any V1 _ (-1) g.f4.length HONE.out (by have := HN.out; omega) (by have := HN.out; omega)).mono ?_; rintro e w2 ⟨g7, rfl, hg7, hb7, hB7⟩; obtain ⟨i2, c7, f7⟩ := HI.out w2 g7 hg7 hb7 hB7; have I2 := Lib.hid i2; have HG7 := Lib.hid hg7; clear q0 q1 q2 q3 q4 b0 b1 hg7 hb7 hB7 i2 HI)
  clear c7 f7 e0 e1 e2 d1 d2 d3
  have HQ0 := Lib.hid (show Kd.Q (Kd.int .i64) 3 ((w2.setCell ⟨g7, 0, none⟩ (.int .i64 0)).alloc (.cells #[.int .i64 0] 3)) w0.heap.size (fun k => k ≠ g7) (.slice (some ⟨w2.heap.size, 0, none⟩) 1 1) [0] from by
    refine Kd.Q_of_R (row3 (o := [0]) ?_ I2.out.bel.size (fun he => ?_) (by decide))
    · have h := heap_alloc_new (w2.setCell ⟨g7, 0, none⟩ (.int .i64 0)) (.cells #[.int .i64 0] 3)
      rw [World.size_setCell] at h
      exact h
    · have := blk_lt I2.out.ho
      omega)
  have HI0 := Lib.hid (show DInv w0 ((w2.setCell ⟨g7, 0, none⟩ (.int .i64 0)).alloc (.cells #[.int .i64 0] 3)) w0.heap.size W1.heap.size g7 sw (some ad) sc fs g A4 c4 ((List.replicate g.f4.length (-1)).set 0 0) from
    (I2.out.put 0 (by omega) (by have := HN.out.1; simp; omega) 0).later ((Below.refl _ _).alloc (Nat.le_refl _) _))
  clear I2 HG7 HFB HONE HB2 HBOX EV hnn
  go_loopg [8] K (fun kq v8 w' => ∃ (o q : List Int), RowKit.Hid (outF fs g kq o q = some (r1, r2)) ∧ RowKit.Hid (DInv w0 w' w0.heap.size W1.heap.size g7 sw (some ad) sc fs g A4 c4 o) ∧ RowKit.Hid (Kd.Q (Kd.int .i64) 3 w' w0.heap.size (fun k => k ≠ g7) v8 q))
  case atStart => exact ⟨_, _, HD, HI0, HQ0⟩
  case round =>
    obtain ⟨o, q, hr, hI, hQ⟩ := hrel
    clear HD HI0 HQ0
    cases gk with
    | zero => exact absurd hr.out (by simp [outF])
    | succ k =>
      cases q with
      | nil =>
        have h := hr.out
        simp only [outF, Option.some.injEq, Prod.mk.injEq] at h
        obtain ⟨rfl, rfl⟩ := h
        obtain ⟨Aq, cq, eq, _⟩ := Kd.Q_slice hQ.out
        subst eq
        have e0 : decide ((0 : Int) < (([] : List Int).length : Int)) = false := rfl
        have e1 : decide (0 < ([] : List Int).length) = false := rfl
        simp only [List.length_nil] at hQ ⊢
        go_wp2_with fail
        go_ret2
        exact ⟨_, rfl, by rw [← hI.out.olen]; exact row3 hI.out.ho hI.out.hgo trivial (by have := hI.out.olen; have := HN.out.2; omega), hI.out.bel⟩
      | cons a q =>
        have h := hr.out
        unfold outF at h
        split at h
        case isFalse => cases h
        rename_i hA
        obtain ⟨ha0, ha1, hql⟩ := hA
        split at h
        case isFalse => cases h
        rename_i hS
        obtain ⟨hs1, hs2⟩ := hS
        clear hr
        have H := Lib.hid h
        have HQL := Lib.hid hql
        clear h hql
        have holen := hI.out.olen
        have ha2 : a < (g.f4.length : Int) := by omega
        obtain ⟨gq, oq, cap, eq, hgq0, hgq1, _⟩ := Kd.Q_form hQ.out (by simp)
        subst eq
        obtain ⟨_, hqc, _⟩ := Kd.Q_reads' hQ.out
        have hqne : gq ≠ g7 := hQ.out.1 gq (by simp [Value.ownBlock])
        obtain ⟨cqa, _⟩ := Kd.Q_cell 0 hQ.out 0 (by omega) (by simp)
        rw [show rdOf (0 : Int) (a :: q) 0 = a from rfl, show oq + (0 : Int).toNat = oq from rfl] at cqa
        obtain ⟨i0, hi0, _, hsz, _⟩ := info_parts PStackRuns.info3
        have hcut := cut_from (P := Try.prog) 52 3 .i64 Try.underlying52 hi0 1 hsz (some ⟨gq, oq, none⟩) (a :: q).length cap 1 (by omega) (by simp; omega)
        have hdrop := Kd.Q_drop (k := 1) hQ.out (by simp)
        rw [show (1 : Int).toNat = 1 from rfl] at hcut
        rw [show (Kd.int IntKind.i64).sz = 1 from rfl] at hdrop
        rw [show (a :: q).length - 1 = q.length from rfl] at hcut hdrop
        obtain ⟨A8, hA8⟩ : ∃ A8, A8 = (if cap = 1 then some (⟨gq, oq, none⟩ : Addr) else (some (⟨gq, oq, none⟩ : Addr)).map (·.add (1 * 1))) := ⟨_, rfl⟩
        rw [← hA8] at hcut hdrop
        rw [show (a :: q).drop 1 = q from rfl] at hdrop
        have HQ8 := Lib.hid hdrop
        have k0 : decide ((0 : Int) < ((a :: q).length : Int)) = true := decide_eq_true (by simp)
        have k1 : decide (0 < (a :: q).length) = true := decide_eq_true (by simp)
        have k2 : (0 < (a :: q).length) = True := eq_true (by simp)
        obtain ⟨m8, hm8⟩ : ∃ m8, m8 = (a :: q).length := ⟨_, rfl⟩
        rw [← hm8] at hcut hqc k0 k1 k2 ⊢
        have HM8 := Lib.hid hm8
        clear hdrop hi0 hsz hA8 hm8
        obtain ⟨ai, hAi, x0, x1, x2, x3⟩ := at_T25 H4.out.2 a ha0 ha2
        subst hAi
        have x0 := pw_cell_below hI.out.bel x0
        have x1 := pw_cell_below hI.out.bel x1
        have x2 := pw_cell_below hI.out.bel x2
        have x3 := pw_cell_below hI.out.bel x3
        have f4 : wr.cell? ⟨W1.heap.size, 4, none⟩ = some (.slice (some ai) g.f4.length c4) := by rw [blk_cell hI.out.hf]; rfl
        obtain ⟨i, hi⟩ : ∃ i, i = rd_T25 g.f4 a := ⟨_, rfl⟩
        rw [← hi] at H x0 x1 x2 x3 hs1
        have HII := Lib.hid hi
        clear hi
        go_upto_region 11 with (fail)
        obtain ⟨W3, hW3⟩ : ∃ W3, W3 = wr.alloc (.cells #[.int .i64 i.f0, .int .i64 i.f1, .int .i64 i.f2, .int .u32 i.f3] 25) := ⟨_, rfl⟩
        rw [← hW3]
        have hB3 : Below wr.heap.size wr W3 := by rw [hW3]; exact (Below.refl _ _).alloc (Nat.le_refl _) _
        have hi3 : W3.heap[wr.heap.size]? = some (.cells #[.int .i64 i.f0, .int .i64 i.f1, .int .i64 i.f2, .int .u32 i.f3] 25 (0, 0)) := by rw [hW3]; exact heap_alloc_new _ _
        have I3 := Lib.hid (hI.out.later hB3)
        have Q3 := Lib.hid (Kd.Q_below HQ8.out hB3)
        have HI3 := Lib.hid hi3
        clear f4 x0 x1 x2 x3 hcut cqa hB3 hW3 hI HQ8 hQ k0 k1 k2 hi3
        have b0 : W3.cell? ⟨w0.heap.size, 0, none⟩ = some (.int .i64 sw) := by rw [blk_cell I3.out.hb]; rfl
        have b1 : W3.cell? ⟨w0.heap.size, 1, none⟩ = some (.slice (some ad) fs.length sc) := by rw [blk_cell I3.out.hb]; rfl
        have f0 : W3.cell? ⟨W1.heap.size, 0, none⟩ = some (.int .i64 g.f0) := by rw [blk_cell I3.out.hf]; rfl
        have f1 : W3.cell? ⟨W1.heap.size, 1, none⟩ = some (.int .i64 g.f1) := by rw [blk_cell I3.out.hf]; rfl
        have f2 : W3.cell? ⟨W1.heap.size, 2, none⟩ = some (.int .i64 g.f2) := by rw [blk_cell I3.out.hf]; rfl
        have f3 : W3.cell? ⟨W1.heap.size, 3, none⟩ = some (.bool g.f3) := by rw [blk_cell I3.out.hf]; rfl
        have f4 : W3.cell? ⟨W1.heap.size, 4, none⟩ = some (.slice (some ai) g.f4.length c4) := by rw [blk_cell I3.out.hf]; rfl
        have y0 : W3.cell? ⟨wr.heap.size, 0, none⟩ = some (.int .i64 i.f0) := by rw [blk_cell HI3.out]; rfl
        have y1 : W3.cell? ⟨wr.heap.size, 1, none⟩ = some (.int .i64 i.f1) := by rw [blk_cell HI3.out]; rfl
        have y2 : W3.cell? ⟨wr.heap.size, 2, none⟩ = some (.int .i64 i.f2) := by rw [blk_cell HI3.out]; rfl
        have y3 : W3.cell? ⟨wr.heap.size, 3, none⟩ = some (.int .u32 i.f3) := by rw [blk_cell HI3.out]; rfl
        obtain ⟨c1, hc1⟩ : ∃ c, c = (changeF fs g.f3 i).1 := ⟨_, rfl⟩
        obtain ⟨c2, hc2⟩ : ∃ c, c = (changeF fs g.f3 i).2.1 := ⟨_, rfl⟩
        obtain ⟨c3, hc3⟩ : ∃ c, c = (changeF fs g.f3 i).2.2 := ⟨_, rfl⟩
        have hcf := change_f sw fs g.f0 g.f1 g.f2 g.f3 g.f4 i
        rw [← hc1, ← hc2, ← hc3] at hcf
        have hon := change_on fs g.f3 i
        unfold OnOk at hon
        rw [← hc2] at hon
        rw [← hc1] at hs1
        have h := H.out
        rw [← hc1, ← hc2, ← hc3] at h
        obtain ⟨u, hu⟩ : ∃ u, u = rd o a := ⟨_, rfl⟩
        rw [← hu] at h hs2
        obtain ⟨L, hL⟩ : ∃ L, L = u - c1 := ⟨_, rfl⟩
        rw [← hL] at h
        obtain ⟨D, hDD⟩ : ∃ D, D = L + c2 := ⟨_, rfl⟩
        rw [← hDD] at h
        have hsL : IntKind.i64.wrap (u - c1) = L := by
          rw [hL]
          unfold sm at hs1 hs2
          exact IntWalk.i64_in _ (by omega)
        have hsD : IntKind.i64.wrap (L + c2) = D := by
          rw [hDD]
          unfold sm at hs1 hs2
          exact IntWalk.i64_in _ (by omega)
        have HU := Lib.hid hu
        have HCF := Lib.hid hcf
        have HSD := Lib.hid hsD
        have HON := Lib.hid hon
        have HCC := Lib.hid (And.intro hc1 (And.intro hc2 hc3))
        have HLD := Lib.hid (And.intro hL hDD)
        have HSS := Lib.hid (And.intro hs1 hs2)
        clear H
        have H := Lib.hid h
        clear h hu hcf hsD hon hc1 hc2 hc3 hL hDD hs1 hs2
        have HC3 := Lib.hid (show Kd.C k28 W3 (some ad) fs.length fs from Kd.C_below HC.out I3.out.bel)
        have HC4 := Lib.hid (show Kd.C k25 W3 (some ai) g.f4.length g.f4 from Kd.C_below H4.out.2 I3.out.bel)
        go_upto_region 12 with (first | (go_at_call 29; refine (stack_change.calls 3 sw _ sc fs g.f0 g.f1 g.f2 g.f3 _ c4 g.f4 i.f0 i.f1 i.f2 i.f3 c1 c2 c3 W3 HC3.out hsc HC4.out H4.out.1 HCF.out).mono ?_; rintro e w4 ⟨rfl, hb4⟩; have HB4 := Lib.hid hb4; clear hb4 b0 b1 f0 f1 f2 f3 f4 y0 y1 y2 y3))
        have I4 := Lib.hid (I3.out.later HB4.out)
        have Q4 := Lib.hid (Kd.Q_below Q3.out HB4.out)
        have HI4 := Lib.hid (blk_below HI3.out HB4.out)
        clear I3 Q3 HI3 HC3 HC4 HB4
        have co : w4.cell? ⟨g7, a.toNat, none⟩ = some (.int .i64 u) := by rw [HU.out]; exact I4.out.cell a ha0 ha1
        have kA : decide (a < (g.f4.length : Int)) = true := decide_eq_true ha2
        go_upto_region 13 with (fail)
        clear co hsL
        have i0 : w4.cell? ⟨wr.heap.size, 0, none⟩ = some (.int .i64 i.f0) := by rw [blk_cell HI4.out]; rfl
        by_cases hbad : c3 = false ∨ c1 < 0 ∨ L < 0 ∨ (i.f0 = 11 ∧ L ≠ 0)
        · have h := H.out
          rw [if_pos hbad] at h
          simp only [Option.some.injEq, Prod.mk.injEq] at h
          obtain ⟨rfl, rfl⟩ := h
          clear H
          by_cases b1 : c3 = false
          · subst b1
            clear hbad
            go_wp2_with fail
            go_ret2
            exact ⟨_, rfl, Kd.R_nil _ _ _ _ _, I4.out.bel⟩
          · replace b1 : c3 = true := by simpa using b1
            subst b1
            by_cases b2 : c1 < 0
            · have b2' : decide (c1 < 0) = true := decide_eq_true b2
              clear hbad
              go_wp2_with fail
              go_ret2
              exact ⟨_, rfl, Kd.R_nil _ _ _ _ _, I4.out.bel⟩
            · have b2' : decide (c1 < 0) = false := decide_eq_false b2
              by_cases b3 : L < 0
              · have b3' : decide (L < 0) = true := decide_eq_true b3
                clear hbad b2
                go_wp2_with fail
                go_ret2
                exact ⟨_, rfl, Kd.R_nil _ _ _ _ _, I4.out.bel⟩
              · have b3' : decide (L < 0) = false := decide_eq_false b3
                have b4 : i.f0 = 11 ∧ L ≠ 0 := by rcases hbad with h | h | h | h; cases h; exact absurd h b2; exact absurd h b3; exact h
                have b4' : (i.f0 == 11) = true := by simp [b4.1]
                have b5' : (L == 0) = false := by simp [b4.2]
                have b5'' : (L != 0) = true := by simp [b4.2]
                clear hbad b2 b3 b4
                go_wp2_with fail
                go_ret2
                exact ⟨_, rfl, Kd.R_nil _ _ _ _ _, I4.out.bel⟩
        · have h := H.out
          rw [if_neg hbad] at h
          clear H
          have H := Lib.hid h
          clear h
          have b1 : c3 = true := by
            cases c3
            · exact absurd (Or.inl rfl) hbad
            · rfl
          subst b1
          have b2 : ¬ c1 < 0 := fun h => hbad (Or.inr (Or.inl h))
          have b3 : ¬ L < 0 := fun h => hbad (Or.inr (Or.inr (Or.inl h)))
          have b2' : decide (c1 < 0) = false := decide_eq_false b2
          have b3' : decide (L < 0) = false := decide_eq_false b3
          have HBAD := Lib.hid hbad
          have HL0 := Lib.hid (show 0 ≤ L by omega)
          clear hbad b2 b3
          go_cut [94] from 49 to 138 (fun v94 wc => v94 = .bool false ∧ wc = w4)
          case first =>
            by_cases b4 : i.f0 = 11
            · have b4' : (i.f0 == 11) = true := by simp [b4]
              have b5 : L = 0 := by
                refine Classical.byContradiction fun hne => HBAD.out (Or.inr (Or.inr (Or.inr ⟨b4, hne⟩)))
              have b5' : (L == 0) = true := by simp [b5]
              have b5'' : (L != 0) = false := by simp [b5]
              clear b4 b5
              go_wp2_with fail
              go_meet
              case rel => exact ⟨rfl, rfl⟩
            · have b4' : (i.f0 == 11) = false := by simp [b4]
              clear b4
              go_wp2_with fail
              go_meet
              case rel => exact ⟨rfl, rfl⟩
          case rest =>
            obtain ⟨rfl, rfl⟩ := hcut
            have i1 : wc.cell? ⟨wr.heap.size, 1, none⟩ = some (.int .i64 i.f1) := by rw [blk_cell HI4.out]; rfl
            have i2 : wc.cell? ⟨wr.heap.size, 2, none⟩ = some (.int .i64 i.f2) := by rw [blk_cell HI4.out]; rfl
            have i3 : wc.cell? ⟨wr.heap.size, 3, none⟩ = some (.int .u32 i.f3) := by rw [blk_cell HI4.out]; rfl
            have hlt7 := blk_lt I4.out.ho
            obtain ⟨nx, hnx⟩ : ∃ nx, nx = nextF i a := ⟨_, rfl⟩
            have hnf := next_f i a ha0 (by have := HN.out.2; omega)
            rw [← hnx] at hnf
            have hnl : nx.length ≤ 2 := by
              rw [hnx]
              unfold nextF
              repeat' split
              all_goals simp
            have h := H.out
            rw [← hnx] at h
            have HNF := Lib.hid hnf
            have HNL := Lib.hid hnl
            clear H
            have H := Lib.hid h
            clear h hnf hnl hnx
            obtain ⟨v8, hv8⟩ : ∃ v : Value, v = .slice A8 q.length (cap - 1) := ⟨_, rfl⟩
            rw [← hv8] at Q4
            have HV8 := Lib.hid hv8
            have HI5 := Lib.hid (show ∀ (w5 : World) (nv : Value), Kd.R (Kd.int .i64) 3 w5 wc.heap.size (fun _ => True) nv nx → Below wc.heap.size wc w5 → DInv w0 w5 w0.heap.size W1.heap.size g7 sw (some ad) sc fs g (some ai) c4 o ∧ Kd.Q (Kd.int .i64) 3 w5 w0.heap.size (fun k => k ≠ g7 ∧ some k ≠ nv.ownBlock) v8 q ∧ Kd.R (Kd.int .i64) 3 w5 w0.heap.size (fun k => k ≠ g7 ∧ some k ≠ v8.ownBlock) nv nx from by
              intro w5 nv hr hb
              refine ⟨I4.out.later hb, Kd.Q_elder' Q4.out (Kd.R_base hr) hb, ?_⟩
              have h1 := Kd.R_mono (Kd.R_newB (Kd.R_new' hr (Kd.Q_lt Q4.out)) I4.out.ho) (ok' := fun k => k ≠ g7 ∧ some k ≠ v8.ownBlock) (fun k hk => ⟨hk.2, hk.1.2⟩)
              exact Kd.R_lower h1 I4.out.bel.size)
            clear hv8
            go_upto_region 16 with (first | (go_at_call 30; refine (stack_next.calls i.f0 i.f1 i.f2 i.f3 a nx wc HNF.out).mono ?_; rintro e w5 ⟨nv, rfl, hR, hB⟩; obtain ⟨hi5, hq5, hr5⟩ := HI5.out w5 nv hR hB; obtain ⟨An, cn, en⟩ := Kd.R_slice hR; have I5 := Lib.hid hi5; have Q5 := Lib.hid hq5; have R5 := Lib.hid hr5; subst en; clear i0 i1 i2 i3 hR hB hi5 hq5 hr5 HI5 HI4))
            rw [← HV8.out]
            clear I4 Q4 HU HCF HCC HLD HSS HBAD HM8 HII hlt7 holen ha2 kA hqc hqne hgq0 hgq1
            go_loopg [8, 99] (nx.length + 1) (fun kq v8 v99 w' => ∃ (j : Nat) (o' q' : List Int), v99 = .int .i64 (j : Int) ∧ RowKit.Hid (kq + j = nx.length + 1) ∧ RowKit.Hid (q'.length ≤ q.length + j) ∧ RowKit.Hid ((match innF D (nx.drop j) o' q' with | none => some ([], false) | some (o2, q2) => outF fs g k o2 q2) = some (r1, r2)) ∧ RowKit.Hid (DInv w0 w' w0.heap.size W1.heap.size g7 sw (some ad) sc fs g (some ai) c4 o') ∧ RowKit.Hid (Kd.Q (Kd.int .i64) 3 w' w0.heap.size (fun k => k ≠ g7 ∧ some k ≠ (Value.slice An nx.length cn).ownBlock) v8 q') ∧ RowKit.Hid (Kd.R (Kd.int .i64) 3 w' w0.heap.size (fun k => k ≠ g7 ∧ some k ≠ v8.ownBlock) (.slice An nx.length cn) nx))
            case atStart => exact ⟨0, o, q, rfl, Lib.hid rfl, Lib.hid (Nat.le_refl _), H, I5, Q5, R5⟩
            case round =>
              obtain ⟨j, o', q', rfl, hkq, hql, hm, hI, hQ, hR⟩ := hrel
              clear H I5 Q5 R5
              by_cases hj : j < nx.length
              · have hj0 : decide ((j : Int) < (nx.length : Int)) = true := decide_eq_true (by omega)
                obtain ⟨t, ht⟩ : ∃ t, t = rd nx (j : Int) := ⟨_, rfl⟩
                have hdr : nx.drop j = t :: nx.drop (j + 1) := by
                  rw [List.drop_eq_getElem_cons hj, ht]
                  simp [rd, List.getD_eq_getElem?_getD, hj]
                have hm' := hm.out
                rw [hdr] at hm'
                unfold innF at hm'
                clear hm hdr
                have p0 : (0 : Int) ≤ (j : Int) := by omega
                have p1 : (j : Int) < (nx.length : Int) := by omega
                obtain ⟨adn, eAn, cn0⟩ := Kd.at_int (Kd.R_reads' hR.out).2.2 (j : Int) p0 p1
                subst eAn
                rw [← ht, Int.toNat_natCast] at cn0
                have HT := Lib.hid ht
                clear ht
                have hol := hI.out.olen
                have f4 : wr.cell? ⟨W1.heap.size, 4, none⟩ = some (.slice (some ai) g.f4.length c4) := by rw [blk_cell hI.out.hf]; rfl
                have hj1 : IntKind.i64.wrap ((j : Int) + 1) = ((j + 1 : Nat) : Int) := by
                  have := HNL.out
                  rw [show ((j + 1 : Nat) : Int) = (j : Int) + 1 from by omega]
                  exact IntWalk.i64_in _ (by omega)
                by_cases t0 : t < 0 ∨ (o'.length : Int) ≤ t
                · rw [if_pos t0] at hm'
                  simp only [Option.some.injEq, Prod.mk.injEq] at hm'
                  obtain ⟨rfl, rfl⟩ := hm'
                  rw [hol] at t0
                  by_cases t1 : t < 0
                  · have t1' : decide (t < 0) = true := decide_eq_true t1
                    clear t0 t1
                    go_wp2_with fail
                    go_ret2
                    exact ⟨_, rfl, Kd.R_nil _ _ _ _ _, hI.out.bel⟩
                  · have t1' : decide (t < 0) = false := decide_eq_false t1
                    have t2' : decide ((g.f4.length : Int) ≤ t) = true := decide_eq_true (by omega)
                    clear t0 t1
                    go_wp2_with fail
                    go_ret2
                    exact ⟨_, rfl, Kd.R_nil _ _ _ _ _, hI.out.bel⟩
                · rw [if_neg t0] at hm'
                  have t1 : 0 ≤ t := by omega
                  have t2 : t < (g.f4.length : Int) := by omega
                  have t1' : decide (t < 0) = false := decide_eq_false (by omega)
                  have t2' : decide ((g.f4.length : Int) ≤ t) = false := decide_eq_false (by omega)
                  have t3' : decide (t < (g.f4.length : Int)) = true := decide_eq_true t2
                  have t4' : decide (0 ≤ t) = true := decide_eq_true t1
                  obtain ⟨z, hz⟩ : ∃ z, z = rd o' t := ⟨_, rfl⟩
                  have ct : wr.cell? ⟨g7, t.toNat, none⟩ = some (.int .i64 z) := by rw [hz]; exact hI.out.cell t t1 (by omega)
                  rw [← hz] at hm'
                  clear t0 hz
                  by_cases z0 : z < 0
                  · rw [if_pos z0] at hm'
                    have z0' : decide (z < 0) = true := decide_eq_true z0
                    have hsD := HSD.out
                    have HM := Lib.hid hm'
                    have hlt7 := blk_lt hI.out.ho
                    have ft := blk_frozen hI.out.ho t.toNat
                    obtain ⟨W6, hW6⟩ : ∃ W6, W6 = wr.setCell ⟨g7, t.toNat, none⟩ (.int .i64 D) := ⟨_, rfl⟩
                    have I6 := Lib.hid (show DInv w0 W6 w0.heap.size W1.heap.size g7 sw (some ad) sc fs g (some ai) c4 (o'.set t.toNat D) from by rw [hW6]; exact hI.out.put t t1 (by omega) D)
                    have Q6 := Lib.hid (show Kd.Q (Kd.int .i64) 3 W6 w0.heap.size (fun k => k ≠ g7 ∧ some k ≠ (Value.slice (some adn) nx.length cn).ownBlock) u8 q' from by rw [hW6]; exact Kd.Q_far hQ.out (fun k hk => hk.1) _)
                    have R6 := Lib.hid (show Kd.R (Kd.int .i64) 3 W6 w0.heap.size (fun k => k ≠ g7 ∧ some k ≠ u8.ownBlock) (.slice (some adn) nx.length cn) nx from by rw [hW6]; exact Kd.R_far hR.out (fun k hk => hk.1) _)
                    have E6 := Lib.hid hW6
                    have hl6 : q'.length ≤ 1000002 := by have := hql.out; have := HNL.out; have := HQL.out; omega
                    clear hW6 hm' hI hQ hR
                    go_upto_region 22 with (fail)
                    rw [← E6.out]
                    go_wp2_with (first | ((with_reducible refine gate_builtin (b := .append) (xs := #[.tmp 125, .tmp 127]) rfl ?_); (try (refine gate_guard (by rfl) ?_; dsimp only)); at_builtin; refine Kd.Q_append (Kd.int .i64) (w0 := w0) w0.heap.size rfl (.tmp 125) (.tmp 127) 52 3 (.int .i64 0) 8 rfl Try.underlying52 PStackRuns.info3 rfl (by decide) (by omega) u8 q' t [.int .i64 t] (fun k => k ≠ g7 ∧ some k ≠ (Value.slice (some adn) nx.length cn).ownBlock) (fun _ => False) rfl rfl ?aP (fun _ hk => hk.elim) ?aF ?aO ?aB ?aS ?aL ?_; (case aP => exact rfl); (case aB => exact I6.out.bel); (case aF => exact (fun k hk => ⟨by have := blk_lt I6.out.ho; omega, Kd.fresh' (Kd.R_lt R6.out) k hk⟩)); (case aO => exact Q6.out); (case aS => exact I6.out.bel.size); (case aL => omega); intro v9 w9 ho9 hb9 hg9 hat9; have I9 := Lib.hid (I6.out.grown hg9 hb9 (Kd.Q_typed Q6.out) (fun he => (Q6.out.1 g7 he.symm).1 rfl)); have Q9 := Lib.hid ho9; have R9 := Lib.hid (Kd.R_after (v := u8) (ok := fun k => k ≠ g7) R6.out hg9 hat9); clear ho9 hb9 hg9 hat9))
                    go_roundg (gk - 1)
                    case measure => have := hkq.out; omega
                    case rel => exact ⟨j + 1, o'.set t.toNat D, q' ++ [t], by go_num, Lib.hid (by have := hkq.out; omega), Lib.hid (by have := hql.out; simp; omega), HM, I9, Q9, R9⟩
                  · rw [if_neg z0] at hm'
                    have z0' : decide (z < 0) = false := decide_eq_false z0
                    have hsD := HSD.out
                    by_cases z1 : z ≠ D
                    · rw [if_pos z1] at hm'
                      simp only [Option.some.injEq, Prod.mk.injEq] at hm'
                      obtain ⟨rfl, rfl⟩ := hm'
                      have z1' : (z == D) = false := by simp [z1]
                      have z1'' : (z != D) = true := by simp [z1]
                      clear z1 z0
                      go_wp2_with fail
                      go_ret2
                      exact ⟨_, rfl, Kd.R_nil _ _ _ _ _, hI.out.bel⟩
                    · rw [if_neg z1] at hm'
                      have z1' : (z == D) = true := by simpa using z1
                      have z1'' : (z != D) = false := by simpa using z1
                      have HM := Lib.hid hm'
                      clear z1 z0 hm'
                      go_wp2_with fail
                      go_roundg (gk - 1)
                      case measure => have := hkq.out; omega
                      case rel => exact ⟨j + 1, o', q', by go_num, Lib.hid (by have := hkq.out; omega), Lib.hid (by have := hql.out; omega), HM, hI, hQ, hR⟩
              · have hj0 : decide ((j : Int) < (nx.length : Int)) = false := decide_eq_false (by omega)
                have hm' := hm.out
                rw [List.drop_eq_nil_of_le (by omega)] at hm'
                simp only [innF] at hm'
                go_wp2_with fail
                go_roundg k
                case measure => omega
                case rel => exact ⟨o', q', Lib.hid hm', hI, Lib.hid (Kd.Q_mono hQ.out (fun _ hk => hk.1))⟩
end Go.Proofs.Ytlngcolnjgloaaa
