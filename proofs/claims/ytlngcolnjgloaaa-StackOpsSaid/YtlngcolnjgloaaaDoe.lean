/- The stack machine's do: an instruction. Conditions: rows below 2^47 bytes. -/
import Derived.Test.YtlngcolnjgloaaaDod
namespace Go.Proofs.Ytlngcolnjgloaaa
open Go.RowKit Go.Proofs.YtlngcolnjgloaaaW.PrintWords PStackRuns
set_option linter.unusedVariables false
set_option linter.unusedSimpArgs false

section
variable {w0 W : World} {mb wb sc fb : Nat} {ps : List (Nat × Value)} {outv callsv v : Value} {sw : Int} {SA : Option Addr} {fs : List S28} {m : Mc} {x : Fr} {xs : List Fr} {f1 f2 f3 : Int}

theorem Mach.fcell (h : Mach w0 W mb ((fb, v) :: ps) wb outv callsv sw SA sc fs m) (hm : m.calls = x :: xs) : W.cell? ⟨fb, 5, none⟩ = some (.int .i64 x.at_) ∧ W.frozen? ⟨fb, 5, none⟩ = false := by
  obtain ⟨A, c, hc, hC, hb⟩ := (h.top_at hm).blk
  exact ⟨by rw [blk_cell hb]; rfl, blk_frozen hb 5⟩
theorem Mach.setAt (h : Mach w0 W mb ((fb, v) :: ps) wb outv callsv sw SA sc fs m) (hm : m.calls = x :: xs) (a : Int) : Mach w0 (W.setCell ⟨fb, 5, none⟩ (.int .i64 a)) mb ((fb, v) :: ps) wb outv callsv sw SA sc fs { m with calls := { x with at_ := a } :: xs } ∧ Keep W (W.setCell ⟨fb, 5, none⟩ (.int .i64 a)) := by
  have hf := h.top_at hm
  obtain ⟨A, c, hc, hC, hb⟩ := hf.blk
  have hs : ∀ i, i < W.heap.size → i ≠ fb → (W.setCell ⟨fb, 5, none⟩ (.int .i64 a)).heap[i]? = W.heap[i]? := fun i _ hi => Below.heap_setCell _ _ _ _ (by exact hi)
  refine ⟨h.top hm (h.bel.setCell (p := ⟨fb, 5, none⟩) hf.ge _) (by simp) (fun i hi h1 _ => hs i hi h1) ⟨⟨A, c, hc, hC, by simpa using blk_set hb 5 (.int .i64 a)⟩, own_setCell hf.own (own_ne hf.own hb (by decide)) _, hf.ge⟩ (.inl rfl), ⟨by simp, fun j cs t ht hbj => ?_⟩⟩
  rw [hs j (blk_lt hbj) (ty_ne hbj hb (by rcases ht with rfl | rfl | rfl | rfl <;> decide))]
  exact hbj

set_option maxHeartbeats 2000000 in
set_option maxRecDepth 100000 in
theorem do_push (h : Mach w0 W mb ((fb, v) :: ps) wb outv callsv sw SA sc fs m) (hm : m.calls = x :: xs) (hl : (x.l.length + 1) * 4 ≤ 140737488355328) :
    Calls Try.prog 21 #[.pointer (some ⟨mb, 0, none⟩), .pointer (some ⟨fb, 0, none⟩), insV ⟨1, f1, f2, f3⟩] W fun e' w' => isRet e' ∧ Keep W w' ∧ ∃ ps1 outv1 callsv1, Mach w0 w' mb ps1 wb outv1 callsv1 sw SA sc fs { m with calls := { x with l := f3 :: x.l } :: xs } := by
  obtain ⟨hb0, hk0, hbx⟩ := h.box (insO ⟨1, f1, f2, f3⟩)
  obtain ⟨W0, hW0⟩ : ∃ W0, W0 = W.alloc (insO ⟨1, f1, f2, f3⟩) := ⟨_, rfl⟩
  rw [← hW0] at hb0 hk0 hbx
  have H0 := Lib.hid hb0
  have K0 := Lib.hid hk0
  have BX := Lib.hid hbx
  have E0 := Lib.hid hW0
  have HM := Lib.hid hm
  clear hb0 hk0 hbx hW0 h hm
  go_enter Try.func21, Try.ntmps21
  go_wp2_with fail
  rw [show (W.alloc (.cells #[.int .i64 1, .int .i64 f1, .int .i64 f2, .int .u32 f3] 25)) = W0 from E0.out.symm]
  obtain ⟨W3, hW3⟩ : ∃ W3 : World, W3 = { W0 with drawn := W0.drawn + 1 } := ⟨_, rfl⟩
  have hB3 : Below W0.heap.size W0 W3 := by rw [hW3]; exact below_drew (Below.refl _ _)
  have H3 := Lib.hid (H0.out.later hB3)
  have K3 := Lib.hid (K0.out.trans (Keep.of_below hB3))
  obtain ⟨_, b1, _, b3⟩ := ins_cells BX.out (Keep.of_below hB3)
  refine wp_region_still_tail 5 (by kernel_rfl) (by kernel_rfl) ?_
  rw [← hW3]
  clear hW3 hB3
  simp only [List.take_succ_cons, List.take_zero, List.drop_succ_cons, List.drop_zero]
  repeat still_step
  refine wpStill_nil ?_
  go_wp2_with fail
  refine (mpush H3.out HM.out f3 hl).mono ?_
  rintro e' w4 ⟨he4, hk4, v4, h4⟩
  have hr4 : e' = .returned (.tuple #[]) := he4
  subst hr4
  have H4 := Lib.hid h4
  have K4 := Lib.hid (K3.out.trans hk4)
  clear hk4 h4 he4
  go_wp2_with fail
  go_end0
  exact ⟨rfl, K4.out, _, _, _, H4.out⟩
set_option maxHeartbeats 2000000 in
set_option maxRecDepth 100000 in
theorem do_load (h : Mach w0 W mb ((fb, v) :: ps) wb outv callsv sw SA sc fs m) (hm : m.calls = x :: xs) (hl : (x.l.length + 1) * 4 ≤ 140737488355328) (h0 : 0 ≤ f1) (h1 : f1 < m.words.length) :
    Calls Try.prog 21 #[.pointer (some ⟨mb, 0, none⟩), .pointer (some ⟨fb, 0, none⟩), insV ⟨2, f1, f2, f3⟩] W fun e' w' => isRet e' ∧ Keep W w' ∧ ∃ ps1 outv1 callsv1, Mach w0 w' mb ps1 wb outv1 callsv1 sw SA sc fs { m with calls := { x with l := rd m.words f1 :: x.l } :: xs } := by
  obtain ⟨n, rfl⟩ := Int.eq_ofNat_of_zero_le h0
  have hnw : n < m.words.length := by omega
  have HNW := Lib.hid hnw
  have n0 : (0 : Int) ≤ n := by omega
  have n1 : (n : Int) < m.words.length := h1
  clear h0 h1
  obtain ⟨hb0, hk0, hbx⟩ := h.box (insO ⟨2, n, f2, f3⟩)
  obtain ⟨W0, hW0⟩ : ∃ W0, W0 = W.alloc (insO ⟨2, n, f2, f3⟩) := ⟨_, rfl⟩
  rw [← hW0] at hb0 hk0 hbx
  have H0 := Lib.hid hb0
  have K0 := Lib.hid hk0
  have BX := Lib.hid hbx
  have E0 := Lib.hid hW0
  have HM := Lib.hid hm
  clear hb0 hk0 hbx hW0 h hm
  go_enter Try.func21, Try.ntmps21
  go_wp2_with fail
  rw [show (W.alloc (.cells #[.int .i64 2, .int .i64 n, .int .i64 f2, .int .u32 f3] 25)) = W0 from E0.out.symm]
  obtain ⟨W3, hW3⟩ : ∃ W3 : World, W3 = { W0 with drawn := W0.drawn + 1 } := ⟨_, rfl⟩
  have hB3 : Below W0.heap.size W0 W3 := by rw [hW3]; exact below_drew (Below.refl _ _)
  have H3 := Lib.hid (H0.out.later hB3)
  have K3 := Lib.hid (K0.out.trans (Keep.of_below hB3))
  obtain ⟨_, b1, _, b3⟩ := ins_cells BX.out (Keep.of_below hB3)
  refine wp_region_still_tail 11 (by kernel_rfl) (by kernel_rfl) ?_
  rw [← hW3]
  obtain ⟨_, _, _, d3, _, _, _, _⟩ := H3.out.mcell
  obtain ⟨c1, g1⟩ := H3.out.wcell n HNW.out
  clear hW3 hB3
  simp only [List.take_succ_cons, List.take_zero, List.drop_succ_cons, List.drop_zero]
  repeat still_step
  refine wpStill_nil ?_
  go_wp2_with fail
  refine (mpush H3.out HM.out (rd m.words n) hl).mono ?_
  rintro e' w4 ⟨he4, hk4, v4, h4⟩
  have hr4 : e' = .returned (.tuple #[]) := he4
  subst hr4
  have H4 := Lib.hid h4
  have K4 := Lib.hid (K3.out.trans hk4)
  clear hk4 h4 he4
  go_wp2_with fail
  go_end0
  exact ⟨rfl, K4.out, _, _, _, H4.out⟩
set_option maxHeartbeats 2000000 in
set_option maxRecDepth 100000 in
theorem do_store (h : Mach w0 W mb ((fb, v) :: ps) wb outv callsv sw SA sc fs m) (hm : m.calls = x :: xs) {u : Int} {l : List Int} (hx : x.l = u :: l) (h0 : 0 ≤ f1) (h1 : f1 < m.words.length) :
    Calls Try.prog 21 #[.pointer (some ⟨mb, 0, none⟩), .pointer (some ⟨fb, 0, none⟩), insV ⟨3, f1, f2, f3⟩] W fun e' w' => isRet e' ∧ Keep W w' ∧ ∃ ps1 outv1 callsv1, Mach w0 w' mb ps1 wb outv1 callsv1 sw SA sc fs { m with words := m.words.set f1.toNat u, calls := { x with l := l } :: xs } := by
  obtain ⟨n, rfl⟩ := Int.eq_ofNat_of_zero_le h0
  have hnw : n < m.words.length := by omega
  have HNW := Lib.hid hnw
  have n0 : (0 : Int) ≤ n := by omega
  have n1 : (n : Int) < m.words.length := h1
  clear h0 h1
  have HXL := Lib.hid hx
  clear hx
  obtain ⟨hb0, hk0, hbx⟩ := h.box (insO ⟨3, n, f2, f3⟩)
  obtain ⟨W0, hW0⟩ : ∃ W0, W0 = W.alloc (insO ⟨3, n, f2, f3⟩) := ⟨_, rfl⟩
  rw [← hW0] at hb0 hk0 hbx
  have H0 := Lib.hid hb0
  have K0 := Lib.hid hk0
  have BX := Lib.hid hbx
  have E0 := Lib.hid hW0
  have HM := Lib.hid hm
  clear hb0 hk0 hbx hW0 h hm
  go_enter Try.func21, Try.ntmps21
  go_wp2_with fail
  rw [show (W.alloc (.cells #[.int .i64 3, .int .i64 n, .int .i64 f2, .int .u32 f3] 25)) = W0 from E0.out.symm]
  have HSS := Lib.hid (show ∀ V m', m'.words.length = m.words.length → Keep W0 V → (∃ ps1 outv1 callsv1, Mach w0 V mb ps1 wb outv1 callsv1 sw SA sc fs m') → (V.cell? ⟨mb, 3, none⟩ = some (.slice (some ⟨wb, 0, none⟩) m.words.length m.words.length) ∧ V.cell? ⟨W.heap.size, 1, none⟩ = some (.int .i64 n)) from fun V m' hl hk ⟨_, _, _, hV⟩ => by
    obtain ⟨_, _, _, d3, _, _, _, _⟩ := hV.mcell
    rw [hl] at d3
    exact ⟨d3, (ins_cells BX.out hk).2.1⟩)
  have bD : Below W0.heap.size W0 W0.drew := below_drew (Below.refl _ _)
  have HD := Lib.hid (H0.out.later bD)
  have KD := Lib.hid (Keep.of_below bD)
  clear bD
  refine wp_region_held_drew (S := fun w' => w'.cell? ⟨mb, 3, none⟩ = some (.slice (some ⟨wb, 0, none⟩) m.words.length m.words.length) ∧ w'.cell? ⟨W.heap.size, 1, none⟩ = some (.int .i64 n)) (by kernel_rfl) (HSS.out _ m rfl KD.out ⟨_, _, _, HD.out⟩) (fun hSd => ?_)
  refine wpAnyH_take (i := 0) (v := ?_) rfl (by kernel_rfl) (by kernel_rfl) (by kernel_rfl) (fun _ _ _ h => h) (Or.inl ⟨by rfl, ?_⟩) (by assumption) ?_
  rotate_left
  · (intro w hSw; (try dsimp only at hSw); go_simp; try with_reducible rfl)
  (try simp only [List.getElem_toArray, List.getElem_cons_succ, List.getElem_cons_zero, Act.put, List.setIfInBounds_toArray, List.set_cons_zero, List.set_cons_succ])
  refine wpAnyH_take (i := 1) (v := ?_) rfl (by kernel_rfl) (by kernel_rfl) (by kernel_rfl) (fun _ _ _ h => h) (Or.inl ⟨by rfl, ?_⟩) (by assumption) ?_
  rotate_left
  · (intro w hSw; (try dsimp only at hSw); go_simp; try with_reducible rfl)
  (try simp only [List.getElem_toArray, List.getElem_cons_succ, List.getElem_cons_zero, Act.put, List.setIfInBounds_toArray, List.set_cons_zero, List.set_cons_succ])
  refine wpAnyH_take (i := 2) (v := ?_) rfl (by kernel_rfl) (by kernel_rfl) (by kernel_rfl) (fun _ _ _ h => h) (Or.inl ⟨by rfl, ?_⟩) (by assumption) ?_
  rotate_left
  · (intro w hSw; (try dsimp only at hSw); go_simp; try with_reducible rfl)
  (try simp only [List.getElem_toArray, List.getElem_cons_succ, List.getElem_cons_zero, Act.put, List.setIfInBounds_toArray, List.set_cons_zero, List.set_cons_succ])
  refine wpAnyH_take (i := 3) (v := ?_) rfl (by kernel_rfl) (by kernel_rfl) (by kernel_rfl) (fun _ _ _ h => h) (Or.inl ⟨by rfl, ?_⟩) (by assumption) ?_
  rotate_left
  · (intro w hSw; (try dsimp only at hSw); go_simp; try with_reducible rfl)
  (try simp only [List.getElem_toArray, List.getElem_cons_succ, List.getElem_cons_zero, Act.put, List.setIfInBounds_toArray, List.set_cons_zero, List.set_cons_succ])
  refine wpAnyH_take (i := 4) (v := ?_) rfl (by kernel_rfl) (by kernel_rfl) (by kernel_rfl) (fun _ _ _ h => h) (Or.inl ⟨by rfl, ?_⟩) (by assumption) ?_
  rotate_left
  · (intro w hSw; (try dsimp only at hSw); go_simp; try with_reducible rfl)
  (try simp only [List.getElem_toArray, List.getElem_cons_succ, List.getElem_cons_zero, Act.put, List.setIfInBounds_toArray, List.set_cons_zero, List.set_cons_succ])
  refine wpAnyH_take (i := 5) (v := ?_) rfl (by kernel_rfl) (by kernel_rfl) (by kernel_rfl) (fun _ _ _ h => h) (Or.inl ⟨by rfl, ?_⟩) (by assumption) ?_
  rotate_left
  · (intro w hSw; (try dsimp only at hSw); go_simp; try with_reducible rfl)
  (try simp only [List.getElem_toArray, List.getElem_cons_succ, List.getElem_cons_zero, Act.put, List.setIfInBounds_toArray, List.set_cons_zero, List.set_cons_succ])
  refine wpAnyH_take (i := 6) (v := ?_) rfl (by kernel_rfl) (by kernel_rfl) (by kernel_rfl) (fun _ _ _ h => h) (Or.inl ⟨by rfl, ?_⟩) (by assumption) ?_
  rotate_left
  · (intro w hSw; (try dsimp only at hSw); go_simp; try with_reducible rfl)
  (try simp only [List.getElem_toArray, List.getElem_cons_succ, List.getElem_cons_zero, Act.put, List.setIfInBounds_toArray, List.set_cons_zero, List.set_cons_succ])
  refine wpAnyH_take (i := 7) (v := ?_) rfl (by kernel_rfl) (by kernel_rfl) (by kernel_rfl) (fun _ _ _ h => h) (Or.inl ⟨by rfl, ?_⟩) (by assumption) ?_
  rotate_left
  · (intro w hSw; (try dsimp only at hSw); go_simp; try with_reducible rfl)
  (try simp only [List.getElem_toArray, List.getElem_cons_succ, List.getElem_cons_zero, Act.put, List.setIfInBounds_toArray, List.set_cons_zero, List.set_cons_succ])
  refine wpAnyH_take (i := 8) (v := ?_) rfl (by kernel_rfl) (by kernel_rfl) (by kernel_rfl) (fun _ _ _ h => h) (Or.inl ⟨by rfl, ?_⟩) (by assumption) ?_
  rotate_left
  · (intro w hSw; (try dsimp only at hSw); go_simp; try with_reducible rfl)
  (try simp only [List.getElem_toArray, List.getElem_cons_succ, List.getElem_cons_zero, Act.put, List.setIfInBounds_toArray, List.set_cons_zero, List.set_cons_succ])
  refine wpAnyH_ready (rs := [9]) (by kernel_rfl) (by simp) ?_
  refine AllReadyH.cons rfl (fun K hK => ?_) AllReadyH.nil
  go_simp
  refine (mpop HD.out HM.out HXL.out).mono ?_
  rintro e' w1 ⟨rfl, hk1, v1, h1⟩
  have H1 := Lib.hid h1
  have K1 := Lib.hid (KD.out.trans hk1)
  obtain ⟨c1, g1⟩ := h1.wcell n HNW.out
  have HSW := Lib.hid (h1.setW n u)
  clear hk1 h1
  go_wp2_with fail
  refine hK.out _ _ (HSS.out w1 _ (by rfl) K1.out ⟨_, _, _, H1.out⟩) (fun hSe => ?_)
  clear hK K
  (try simp only [List.getElem_toArray, List.getElem_cons_succ, List.getElem_cons_zero, Act.put, List.setIfInBounds_toArray, List.set_cons_zero, List.set_cons_succ])
  refine wpAnyH_take (i := 10) (v := ?_) rfl (by kernel_rfl) (by kernel_rfl) (by kernel_rfl) (fun _ _ _ h => h) (Or.inl ⟨by rfl, ?_⟩) (by assumption) ?_
  rotate_left
  · (intro w hSw; (try dsimp only at hSw); go_simp; try with_reducible rfl)
  (try simp only [List.getElem_toArray, List.getElem_cons_succ, List.getElem_cons_zero, Act.put, List.setIfInBounds_toArray, List.set_cons_zero, List.set_cons_succ])
  refine wpAnyH_ready (rs := [11]) (by kernel_rfl) (by simp) ?_
  refine AllReadyH.cons rfl (fun K hK => ?_) AllReadyH.nil
  go_simp
  refine hK.out _ _ (HSS.out _ _ (by simp) (K1.out.trans HSW.out.2) ⟨_, _, _, HSW.out.1⟩) (fun hSf => ?_)
  clear hK K
  (try simp only [List.getElem_toArray, List.getElem_cons_succ, List.getElem_cons_zero, Act.put, List.setIfInBounds_toArray, List.set_cons_zero, List.set_cons_succ])
  refine wpAnyH_done (by kernel_rfl) ?_ _
  go_wp2_with fail
  go_end0
  exact ⟨rfl, K0.out.trans (K1.out.trans HSW.out.2), _, _, _, HSW.out.1⟩
set_option maxHeartbeats 2000000 in
set_option maxRecDepth 100000 in
theorem do_aload_far (h : Mach w0 W mb ((fb, v) :: ps) wb outv callsv sw SA sc fs m) (hm : m.calls = x :: xs) {u : Int} {l : List Int} (hx : x.l = u :: l) (hu : word u) (h0 : 0 ≤ f2) (h1 : f2 ≤ 4096) (hl : ¬ u < f2) :
    Calls Try.prog 21 #[.pointer (some ⟨mb, 0, none⟩), .pointer (some ⟨fb, 0, none⟩), insV ⟨4, f1, f2, f3⟩] W fun e' w' => isRet e' ∧ Keep W w' ∧ ∃ ps1 outv1 callsv1, Mach w0 w' mb ps1 wb outv1 callsv1 sw SA sc fs { m with calls := { x with l := l } :: xs, end_ := 3 } := by
  have H_hx := Lib.hid hx
  have H_hu := Lib.hid hu
  have H_h0 := Lib.hid h0
  have H_h1 := Lib.hid h1
  have H_hl := Lib.hid hl
  clear hx hu h0 h1 hl
  obtain ⟨hb0, hk0, hbx⟩ := h.box (insO ⟨4, f1, f2, f3⟩)
  obtain ⟨W0, hW0⟩ : ∃ W0, W0 = W.alloc (insO ⟨4, f1, f2, f3⟩) := ⟨_, rfl⟩
  rw [← hW0] at hb0 hk0 hbx
  have H0 := Lib.hid hb0
  have K0 := Lib.hid hk0
  have BX := Lib.hid hbx
  have E0 := Lib.hid hW0
  have HM := Lib.hid hm
  clear hb0 hk0 hbx hW0 h hm
  go_enter Try.func21, Try.ntmps21
  go_wp2_with fail
  rw [show (W.alloc (.cells #[.int .i64 4, .int .i64 f1, .int .i64 f2, .int .u32 f3] 25)) = W0 from E0.out.symm]
  refine (aload_far (i := ⟨4, f1, f2, f3⟩) H0.out HM.out H_hx.out rfl H_hu.out H_h0.out H_h1.out (by have := H_hl.out; simp only; omega)).mono ?_
  rintro e' w4 ⟨he4, hk4, v4, h4⟩
  have hr4 : e' = .returned (.tuple #[]) := he4
  subst hr4
  have H4 := Lib.hid h4
  have K4 := Lib.hid (K0.out.trans hk4)
  clear hk4 h4 he4
  go_wp2_with fail
  first | go_end0 | skip
  exact ⟨rfl, K4.out, _, _, _, H4.out⟩
set_option maxHeartbeats 2000000 in
set_option maxRecDepth 100000 in
theorem do_aload_near (h : Mach w0 W mb ((fb, v) :: ps) wb outv callsv sw SA sc fs m) (hm : m.calls = x :: xs) {u : Int} {l : List Int} (hx : x.l = u :: l) (hu : word u) (h0 : 0 ≤ f2) (h1 : f2 ≤ 4096) (hl : u < f2) (ha : 0 ≤ f1) (hw : f1 + u < m.words.length) (hll : x.l.length * 4 ≤ 140737488355328) (hwl : m.words.length ≤ 1000000) :
    Calls Try.prog 21 #[.pointer (some ⟨mb, 0, none⟩), .pointer (some ⟨fb, 0, none⟩), insV ⟨4, f1, f2, f3⟩] W fun e' w' => isRet e' ∧ Keep W w' ∧ ∃ ps1 outv1 callsv1, Mach w0 w' mb ps1 wb outv1 callsv1 sw SA sc fs { m with calls := { x with l := rd m.words (f1 + u) :: l } :: xs } := by
  have H_hx := Lib.hid hx
  have H_hu := Lib.hid hu
  have H_h0 := Lib.hid h0
  have H_h1 := Lib.hid h1
  have H_hl := Lib.hid hl
  have H_ha := Lib.hid ha
  have H_hw := Lib.hid hw
  have H_hll := Lib.hid hll
  have H_hwl := Lib.hid hwl
  clear hx hu h0 h1 hl ha hw hll hwl
  obtain ⟨hb0, hk0, hbx⟩ := h.box (insO ⟨4, f1, f2, f3⟩)
  obtain ⟨W0, hW0⟩ : ∃ W0, W0 = W.alloc (insO ⟨4, f1, f2, f3⟩) := ⟨_, rfl⟩
  rw [← hW0] at hb0 hk0 hbx
  have H0 := Lib.hid hb0
  have K0 := Lib.hid hk0
  have BX := Lib.hid hbx
  have E0 := Lib.hid hW0
  have HM := Lib.hid hm
  clear hb0 hk0 hbx hW0 h hm
  go_enter Try.func21, Try.ntmps21
  go_wp2_with fail
  rw [show (W.alloc (.cells #[.int .i64 4, .int .i64 f1, .int .i64 f2, .int .u32 f3] 25)) = W0 from E0.out.symm]
  refine (aload_near (i := ⟨4, f1, f2, f3⟩) H0.out HM.out H_hx.out rfl H_hu.out H_h0.out H_h1.out H_hl.out H_ha.out H_hw.out H_hll.out H_hwl.out).mono ?_
  rintro e' w4 ⟨he4, hk4, v4, h4⟩
  have hr4 : e' = .returned (.tuple #[]) := he4
  subst hr4
  have H4 := Lib.hid h4
  have K4 := Lib.hid (K0.out.trans hk4)
  clear hk4 h4 he4
  go_wp2_with fail
  first | go_end0 | skip
  exact ⟨rfl, K4.out, _, _, _, H4.out⟩
set_option maxHeartbeats 2000000 in
set_option maxRecDepth 100000 in
theorem do_astore_far (h : Mach w0 W mb ((fb, v) :: ps) wb outv callsv sw SA sc fs m) (hm : m.calls = x :: xs) {u y : Int} {l : List Int} (hx : x.l = y :: u :: l) (hu : word u) (h0 : 0 ≤ f2) (h1 : f2 ≤ 4096) (hl : ¬ u < f2) :
    Calls Try.prog 21 #[.pointer (some ⟨mb, 0, none⟩), .pointer (some ⟨fb, 0, none⟩), insV ⟨5, f1, f2, f3⟩] W fun e' w' => isRet e' ∧ Keep W w' ∧ ∃ ps1 outv1 callsv1, Mach w0 w' mb ps1 wb outv1 callsv1 sw SA sc fs { m with calls := { x with l := l } :: xs, end_ := 3 } := by
  have H_hx := Lib.hid hx
  have H_hu := Lib.hid hu
  have H_h0 := Lib.hid h0
  have H_h1 := Lib.hid h1
  have H_hl := Lib.hid hl
  clear hx hu h0 h1 hl
  obtain ⟨hb0, hk0, hbx⟩ := h.box (insO ⟨5, f1, f2, f3⟩)
  obtain ⟨W0, hW0⟩ : ∃ W0, W0 = W.alloc (insO ⟨5, f1, f2, f3⟩) := ⟨_, rfl⟩
  rw [← hW0] at hb0 hk0 hbx
  have H0 := Lib.hid hb0
  have K0 := Lib.hid hk0
  have BX := Lib.hid hbx
  have E0 := Lib.hid hW0
  have HM := Lib.hid hm
  clear hb0 hk0 hbx hW0 h hm
  go_enter Try.func21, Try.ntmps21
  go_wp2_with fail
  rw [show (W.alloc (.cells #[.int .i64 5, .int .i64 f1, .int .i64 f2, .int .u32 f3] 25)) = W0 from E0.out.symm]
  refine (astore_far (i := ⟨5, f1, f2, f3⟩) H0.out HM.out H_hx.out rfl H_hu.out H_h0.out H_h1.out (by have := H_hl.out; simp only; omega)).mono ?_
  rintro e' w4 ⟨he4, hk4, v4, h4⟩
  have hr4 : e' = .returned (.tuple #[]) := he4
  subst hr4
  have H4 := Lib.hid h4
  have K4 := Lib.hid (K0.out.trans hk4)
  clear hk4 h4 he4
  go_wp2_with fail
  first | go_end0 | skip
  exact ⟨rfl, K4.out, _, _, _, H4.out⟩
set_option maxHeartbeats 2000000 in
set_option maxRecDepth 100000 in
theorem do_astore_near (h : Mach w0 W mb ((fb, v) :: ps) wb outv callsv sw SA sc fs m) (hm : m.calls = x :: xs) {u y : Int} {l : List Int} (hx : x.l = y :: u :: l) (hu : word u) (h0 : 0 ≤ f2) (h1 : f2 ≤ 4096) (hl : u < f2) (ha : 0 ≤ f1) (hw : f1 + u < m.words.length) (hwl : m.words.length ≤ 1000000) :
    Calls Try.prog 21 #[.pointer (some ⟨mb, 0, none⟩), .pointer (some ⟨fb, 0, none⟩), insV ⟨5, f1, f2, f3⟩] W fun e' w' => isRet e' ∧ Keep W w' ∧ ∃ ps1 outv1 callsv1, Mach w0 w' mb ps1 wb outv1 callsv1 sw SA sc fs { m with words := m.words.set (f1 + u).toNat y, calls := { x with l := l } :: xs } := by
  have H_hx := Lib.hid hx
  have H_hu := Lib.hid hu
  have H_h0 := Lib.hid h0
  have H_h1 := Lib.hid h1
  have H_hl := Lib.hid hl
  have H_ha := Lib.hid ha
  have H_hw := Lib.hid hw
  have H_hwl := Lib.hid hwl
  clear hx hu h0 h1 hl ha hw hwl
  obtain ⟨hb0, hk0, hbx⟩ := h.box (insO ⟨5, f1, f2, f3⟩)
  obtain ⟨W0, hW0⟩ : ∃ W0, W0 = W.alloc (insO ⟨5, f1, f2, f3⟩) := ⟨_, rfl⟩
  rw [← hW0] at hb0 hk0 hbx
  have H0 := Lib.hid hb0
  have K0 := Lib.hid hk0
  have BX := Lib.hid hbx
  have E0 := Lib.hid hW0
  have HM := Lib.hid hm
  clear hb0 hk0 hbx hW0 h hm
  go_enter Try.func21, Try.ntmps21
  go_wp2_with fail
  rw [show (W.alloc (.cells #[.int .i64 5, .int .i64 f1, .int .i64 f2, .int .u32 f3] 25)) = W0 from E0.out.symm]
  refine (astore_near (i := ⟨5, f1, f2, f3⟩) H0.out HM.out H_hx.out rfl H_hu.out H_h0.out H_h1.out H_hl.out H_ha.out H_hw.out H_hwl.out).mono ?_
  rintro e' w4 ⟨he4, hk4, v4, h4⟩
  have hr4 : e' = .returned (.tuple #[]) := he4
  subst hr4
  have H4 := Lib.hid h4
  have K4 := Lib.hid (K0.out.trans hk4)
  clear hk4 h4 he4
  go_wp2_with fail
  first | go_end0 | skip
  exact ⟨rfl, K4.out, _, _, _, H4.out⟩
set_option maxHeartbeats 2000000 in
set_option maxRecDepth 100000 in
theorem do_op (h : Mach w0 W mb ((fb, v) :: ps) wb outv callsv sw SA sc fs m) (hm : m.calls = x :: xs) {a b r e : Int} {l : List Int} (hx : x.l = b :: a :: l) (ha : word_Apply.f 1 f1 a b = some (r, e)) (hll : x.l.length * 4 ≤ 140737488355328) (m' : Mc) (hm' : m' = if e = 0 then { m with calls := { x with l := r :: l } :: xs } else { m with calls := { x with l := l } :: xs, end_ := 2 }) :
    Calls Try.prog 21 #[.pointer (some ⟨mb, 0, none⟩), .pointer (some ⟨fb, 0, none⟩), insV ⟨6, f1, f2, f3⟩] W fun e' w' => isRet e' ∧ Keep W w' ∧ ∃ ps1 outv1 callsv1, Mach w0 w' mb ps1 wb outv1 callsv1 sw SA sc fs m' := by
  have H_hx := Lib.hid hx
  have H_ha := Lib.hid ha
  have H_hll := Lib.hid hll
  have H_hm' := Lib.hid hm'
  clear hx ha hll hm'
  obtain ⟨hb0, hk0, hbx⟩ := h.box (insO ⟨6, f1, f2, f3⟩)
  obtain ⟨W0, hW0⟩ : ∃ W0, W0 = W.alloc (insO ⟨6, f1, f2, f3⟩) := ⟨_, rfl⟩
  rw [← hW0] at hb0 hk0 hbx
  have H0 := Lib.hid hb0
  have K0 := Lib.hid hk0
  have BX := Lib.hid hbx
  have E0 := Lib.hid hW0
  have HM := Lib.hid hm
  clear hb0 hk0 hbx hW0 h hm
  go_enter Try.func21, Try.ntmps21
  go_wp2_with fail
  rw [show (W.alloc (.cells #[.int .i64 6, .int .i64 f1, .int .i64 f2, .int .u32 f3] 25)) = W0 from E0.out.symm]
  refine (op_any (i := ⟨6, f1, f2, f3⟩) (e := e) (r := r) H0.out HM.out H_hx.out H_ha.out H_hll.out).mono ?_
  rintro e' w4 ⟨he4, hk4, v4, h4⟩
  rw [← H_hm'.out] at h4
  have hr4 : e' = .returned (.tuple #[]) := he4
  subst hr4
  have H4 := Lib.hid h4
  have K4 := Lib.hid (K0.out.trans hk4)
  clear hk4 h4 he4
  go_wp2_with fail
  first | go_end0 | skip
  exact ⟨rfl, K4.out, _, _, _, H4.out⟩
set_option maxHeartbeats 2000000 in
set_option maxRecDepth 100000 in
theorem do_get (h : Mach w0 W mb ((fb, v) :: ps) wb outv callsv sw SA sc fs m) (hm : m.calls = x :: xs) (hl : (x.l.length + 1) * 4 ≤ 140737488355328) (m' : Mc) (hm' : m' = if m.inp.size = 0 then { m with calls := { x with l := 256 :: x.l } :: xs } else { m with inp := m.inp.extract 1 m.inp.size, calls := { x with l := bt m.inp 0 :: x.l } :: xs }) :
    Calls Try.prog 21 #[.pointer (some ⟨mb, 0, none⟩), .pointer (some ⟨fb, 0, none⟩), insV ⟨12, f1, f2, f3⟩] W fun e' w' => isRet e' ∧ Keep W w' ∧ ∃ ps1 outv1 callsv1, Mach w0 w' mb ps1 wb outv1 callsv1 sw SA sc fs m' := by
  have H_hl := Lib.hid hl
  have H_hm' := Lib.hid hm'
  clear hl hm'
  obtain ⟨hb0, hk0, hbx⟩ := h.box (insO ⟨12, f1, f2, f3⟩)
  obtain ⟨W0, hW0⟩ : ∃ W0, W0 = W.alloc (insO ⟨12, f1, f2, f3⟩) := ⟨_, rfl⟩
  rw [← hW0] at hb0 hk0 hbx
  have H0 := Lib.hid hb0
  have K0 := Lib.hid hk0
  have BX := Lib.hid hbx
  have E0 := Lib.hid hW0
  have HM := Lib.hid hm
  clear hb0 hk0 hbx hW0 h hm
  go_enter Try.func21, Try.ntmps21
  go_wp2_with fail
  rw [show (W.alloc (.cells #[.int .i64 12, .int .i64 f1, .int .i64 f2, .int .u32 f3] 25)) = W0 from E0.out.symm]
  refine (get_any (i := ⟨12, f1, f2, f3⟩) H0.out HM.out rfl H_hl.out m' H_hm'.out).mono ?_
  rintro e' w4 ⟨he4, hk4, v4, h4⟩
  have hr4 : e' = .returned (.tuple #[]) := he4
  subst hr4
  have H4 := Lib.hid h4
  have K4 := Lib.hid (K0.out.trans hk4)
  clear hk4 h4 he4
  go_wp2_with fail
  first | go_end0 | skip
  exact ⟨rfl, K4.out, _, _, _, H4.out⟩
set_option maxHeartbeats 2000000 in
set_option maxRecDepth 100000 in
theorem do_put (h : Mach w0 W mb ((fb, v) :: ps) wb outv callsv sw SA sc fs m) (hm : m.calls = x :: xs) {u : Int} {l : List Int} (hx : x.l = u :: l) (hol : m.out.length ≤ 65536) (m' : Mc) (hm' : m' = if (65536 : Int) ≤ m.out.length then { m with calls := { x with l := l } :: xs, end_ := 4 } else { m with calls := { x with l := l } :: xs, out := m.out ++ [u % 256] }) :
    Calls Try.prog 21 #[.pointer (some ⟨mb, 0, none⟩), .pointer (some ⟨fb, 0, none⟩), insV ⟨13, f1, f2, f3⟩] W fun e' w' => isRet e' ∧ Keep W w' ∧ ∃ ps1 outv1 callsv1, Mach w0 w' mb ps1 wb outv1 callsv1 sw SA sc fs m' := by
  have H_hx := Lib.hid hx
  have H_hol := Lib.hid hol
  have H_hm' := Lib.hid hm'
  clear hx hol hm'
  obtain ⟨hb0, hk0, hbx⟩ := h.box (insO ⟨13, f1, f2, f3⟩)
  obtain ⟨W0, hW0⟩ : ∃ W0, W0 = W.alloc (insO ⟨13, f1, f2, f3⟩) := ⟨_, rfl⟩
  rw [← hW0] at hb0 hk0 hbx
  have H0 := Lib.hid hb0
  have K0 := Lib.hid hk0
  have BX := Lib.hid hbx
  have E0 := Lib.hid hW0
  have HM := Lib.hid hm
  clear hb0 hk0 hbx hW0 h hm
  go_enter Try.func21, Try.ntmps21
  go_wp2_with fail
  rw [show (W.alloc (.cells #[.int .i64 13, .int .i64 f1, .int .i64 f2, .int .u32 f3] 25)) = W0 from E0.out.symm]
  refine (put_any (i := ⟨13, f1, f2, f3⟩) H0.out HM.out H_hx.out rfl H_hol.out m' H_hm'.out).mono ?_
  rintro e' w4 ⟨he4, hk4, v4, o4, h4⟩
  have hr4 : e' = .returned (.tuple #[]) := he4
  subst hr4
  have H4 := Lib.hid h4
  have K4 := Lib.hid (K0.out.trans hk4)
  clear hk4 h4 he4
  go_wp2_with fail
  first | go_end0 | skip
  exact ⟨rfl, K4.out, _, _, _, H4.out⟩
set_option maxHeartbeats 2000000 in
set_option maxRecDepth 100000 in
theorem do_end (h : Mach w0 W mb ((fb, v) :: ps) wb outv callsv sw SA sc fs m) (hm : m.calls = x :: xs) (hxs : xs = []) :
    Calls Try.prog 21 #[.pointer (some ⟨mb, 0, none⟩), .pointer (some ⟨fb, 0, none⟩), insV ⟨11, f1, f2, f3⟩] W fun e' w' => isRet e' ∧ Keep W w' ∧ ∃ ps1 outv1 callsv1, Mach w0 w' mb ps1 wb outv1 callsv1 sw SA sc fs { m with calls := [], end_ := 1 } := by
  subst hxs
  obtain ⟨hb0, hk0, hbx⟩ := h.box (insO ⟨11, f1, f2, f3⟩)
  obtain ⟨W0, hW0⟩ : ∃ W0, W0 = W.alloc (insO ⟨11, f1, f2, f3⟩) := ⟨_, rfl⟩
  rw [← hW0] at hb0 hk0 hbx
  have H0 := Lib.hid hb0
  have K0 := Lib.hid hk0
  have BX := Lib.hid hbx
  have E0 := Lib.hid hW0
  have HM := Lib.hid hm
  clear hb0 hk0 hbx hW0 h hm
  go_enter Try.func21, Try.ntmps21
  go_wp2_with fail
  rw [show (W.alloc (.cells #[.int .i64 11, .int .i64 f1, .int .i64 f2, .int .u32 f3] 25)) = W0 from E0.out.symm]
  refine (back_end (x := x) H0.out HM.out).mono ?_
  rintro e' w4 ⟨he4, hk4, cv, h4⟩
  have hr4 : e' = .returned (.tuple #[]) := he4
  subst hr4
  have H4 := Lib.hid h4
  have K4 := Lib.hid (K0.out.trans hk4)
  clear hk4 h4 he4
  go_wp2_with fail
  first | go_end0 | skip
  exact ⟨rfl, K4.out, _, _, _, H4.out⟩
set_option maxHeartbeats 2000000 in
set_option maxRecDepth 100000 in
theorem do_back_no (h : Mach w0 W mb ((fb, v) :: ps) wb outv callsv sw SA sc fs m) (hm : m.calls = x :: xs) {y : Fr} {ys : List Fr} (hxs : xs = y :: ys) (hw : x.f.f3 = false) :
    Calls Try.prog 21 #[.pointer (some ⟨mb, 0, none⟩), .pointer (some ⟨fb, 0, none⟩), insV ⟨11, f1, f2, f3⟩] W fun e' w' => isRet e' ∧ Keep W w' ∧ ∃ ps1 outv1 callsv1, Mach w0 w' mb ps1 wb outv1 callsv1 sw SA sc fs { m with calls := y :: ys } := by
  subst hxs
  have H_hw := Lib.hid hw
  clear hw
  obtain ⟨hb0, hk0, hbx⟩ := h.box (insO ⟨11, f1, f2, f3⟩)
  obtain ⟨W0, hW0⟩ : ∃ W0, W0 = W.alloc (insO ⟨11, f1, f2, f3⟩) := ⟨_, rfl⟩
  rw [← hW0] at hb0 hk0 hbx
  have H0 := Lib.hid hb0
  have K0 := Lib.hid hk0
  have BX := Lib.hid hbx
  have E0 := Lib.hid hW0
  have HM := Lib.hid hm
  clear hb0 hk0 hbx hW0 h hm
  go_enter Try.func21, Try.ntmps21
  go_wp2_with fail
  rw [show (W.alloc (.cells #[.int .i64 11, .int .i64 f1, .int .i64 f2, .int .u32 f3] 25)) = W0 from E0.out.symm]
  refine (back_no H0.out HM.out H_hw.out).mono ?_
  rintro e' w4 ⟨he4, hk4, cv, h4⟩
  have hr4 : e' = .returned (.tuple #[]) := he4
  subst hr4
  have H4 := Lib.hid h4
  have K4 := Lib.hid (K0.out.trans hk4)
  clear hk4 h4 he4
  go_wp2_with fail
  first | go_end0 | skip
  exact ⟨rfl, K4.out, _, _, _, H4.out⟩
set_option maxHeartbeats 2000000 in
set_option maxRecDepth 100000 in
theorem do_back_yes (h : Mach w0 W mb ((fb, v) :: ps) wb outv callsv sw SA sc fs m) (hm : m.calls = x :: xs) {y : Fr} {ys : List Fr} {u : Int} {l : List Int} (hxs : xs = y :: ys) (hw : x.f.f3 = true) (hx : x.l = u :: l) (hl : (y.l.length + 1) * 4 ≤ 140737488355328) (hcl : ps.length ≤ 1000000) :
    Calls Try.prog 21 #[.pointer (some ⟨mb, 0, none⟩), .pointer (some ⟨fb, 0, none⟩), insV ⟨11, f1, f2, f3⟩] W fun e' w' => isRet e' ∧ Keep W w' ∧ ∃ ps1 outv1 callsv1, Mach w0 w' mb ps1 wb outv1 callsv1 sw SA sc fs { m with calls := { y with l := u :: y.l } :: ys } := by
  subst hxs
  have H_hw := Lib.hid hw
  have H_hx := Lib.hid hx
  have H_hl := Lib.hid hl
  have H_hcl := Lib.hid hcl
  clear hw hx hl hcl
  obtain ⟨hb0, hk0, hbx⟩ := h.box (insO ⟨11, f1, f2, f3⟩)
  obtain ⟨W0, hW0⟩ : ∃ W0, W0 = W.alloc (insO ⟨11, f1, f2, f3⟩) := ⟨_, rfl⟩
  rw [← hW0] at hb0 hk0 hbx
  have H0 := Lib.hid hb0
  have K0 := Lib.hid hk0
  have BX := Lib.hid hbx
  have E0 := Lib.hid hW0
  have HM := Lib.hid hm
  clear hb0 hk0 hbx hW0 h hm
  go_enter Try.func21, Try.ntmps21
  go_wp2_with fail
  rw [show (W.alloc (.cells #[.int .i64 11, .int .i64 f1, .int .i64 f2, .int .u32 f3] 25)) = W0 from E0.out.symm]
  refine (back_yes H0.out HM.out H_hw.out H_hx.out H_hl.out H_hcl.out).mono ?_
  rintro e' w4 ⟨he4, hk4, ps1, cv, hps1, h4⟩
  have hr4 : e' = .returned (.tuple #[]) := he4
  subst hr4
  have H4 := Lib.hid h4
  have K4 := Lib.hid (K0.out.trans hk4)
  clear hk4 h4 he4
  go_wp2_with fail
  first | go_end0 | skip
  exact ⟨rfl, K4.out, _, _, _, H4.out⟩
set_option maxHeartbeats 2000000 in
set_option maxRecDepth 100000 in
theorem do_jump (h : Mach w0 W mb ((fb, v) :: ps) wb outv callsv sw SA sc fs m) (hm : m.calls = x :: xs)  :
    Calls Try.prog 21 #[.pointer (some ⟨mb, 0, none⟩), .pointer (some ⟨fb, 0, none⟩), insV ⟨8, f1, f2, f3⟩] W fun e' w' => isRet e' ∧ Keep W w' ∧ ∃ ps1 outv1 callsv1, Mach w0 w' mb ps1 wb outv1 callsv1 sw SA sc fs { m with calls := { x with at_ := f1 } :: xs } := by
  obtain ⟨q5, g5⟩ := h.fcell hm
  have hlt : fb < W.heap.size := World.block_lt_of_cell? W _ q5
  have HSB := Lib.hid ((h.setAt hm f1).1.box (insO ⟨8, f1, f2, f3⟩))
  have HSK := Lib.hid (h.setAt hm f1).2
  obtain ⟨hb0, hk0, hbx⟩ := h.box (insO ⟨8, f1, f2, f3⟩)
  obtain ⟨W0, hW0⟩ : ∃ W0, W0 = W.alloc (insO ⟨8, f1, f2, f3⟩) := ⟨_, rfl⟩
  rw [← hW0] at hb0 hk0 hbx
  have H0 := Lib.hid hb0
  have K0 := Lib.hid hk0
  have BX := Lib.hid hbx
  have E0 := Lib.hid hW0
  have HM := Lib.hid hm
  clear hb0 hk0 hbx hW0 h hm
  go_enter Try.func21, Try.ntmps21
  go_wp2_with fail
  go_end0
  exact ⟨rfl, HSK.out.trans HSB.out.2.1, _, _, _, HSB.out.1⟩
set_option maxHeartbeats 2000000 in
set_option maxRecDepth 100000 in
theorem do_zero (h : Mach w0 W mb ((fb, v) :: ps) wb outv callsv sw SA sc fs m) (hm : m.calls = x :: xs) {l : List Int} (hx : x.l = 0 :: l) :
    Calls Try.prog 21 #[.pointer (some ⟨mb, 0, none⟩), .pointer (some ⟨fb, 0, none⟩), insV ⟨9, f1, f2, f3⟩] W fun e' w' => isRet e' ∧ Keep W w' ∧ ∃ ps1 outv1 callsv1, Mach w0 w' mb ps1 wb outv1 callsv1 sw SA sc fs { m with calls := { x with l := l, at_ := f1 } :: xs } := by
  have H_hx := Lib.hid hx
  clear hx
  obtain ⟨hb0, hk0, hbx⟩ := h.box (insO ⟨9, f1, f2, f3⟩)
  obtain ⟨W0, hW0⟩ : ∃ W0, W0 = W.alloc (insO ⟨9, f1, f2, f3⟩) := ⟨_, rfl⟩
  rw [← hW0] at hb0 hk0 hbx
  have H0 := Lib.hid hb0
  have K0 := Lib.hid hk0
  have BX := Lib.hid hbx
  have E0 := Lib.hid hW0
  have HM := Lib.hid hm
  clear hb0 hk0 hbx hW0 h hm
  go_enter Try.func21, Try.ntmps21
  go_wp2_with fail
  rw [show (W.alloc (.cells #[.int .i64 9, .int .i64 f1, .int .i64 f2, .int .u32 f3] 25)) = W0 from E0.out.symm]
  refine (mpop H0.out HM.out H_hx.out).mono ?_
  rintro e' w1 ⟨rfl, hk1, v1, h1⟩
  have H1 := Lib.hid h1
  have K1 := Lib.hid (K0.out.trans hk1)
  obtain ⟨_, b1, _, _⟩ := ins_cells BX.out hk1
  obtain ⟨c5, g5⟩ := h1.fcell rfl
  have HS := Lib.hid (h1.setAt rfl f1)
  clear hk1 h1
  go_wp2_with fail
  go_end0
  exact ⟨rfl, K1.out.trans HS.out.2, _, _, _, HS.out.1⟩
set_option maxHeartbeats 2000000 in
set_option maxRecDepth 100000 in
theorem do_nonzero (h : Mach w0 W mb ((fb, v) :: ps) wb outv callsv sw SA sc fs m) (hm : m.calls = x :: xs) {u : Int} {l : List Int} (hx : x.l = u :: l) (hu : u ≠ 0) :
    Calls Try.prog 21 #[.pointer (some ⟨mb, 0, none⟩), .pointer (some ⟨fb, 0, none⟩), insV ⟨9, f1, f2, f3⟩] W fun e' w' => isRet e' ∧ Keep W w' ∧ ∃ ps1 outv1 callsv1, Mach w0 w' mb ps1 wb outv1 callsv1 sw SA sc fs { m with calls := { x with l := l } :: xs } := by
  have H_hx := Lib.hid hx
  have H_hu := Lib.hid hu
  clear hx hu
  obtain ⟨hb0, hk0, hbx⟩ := h.box (insO ⟨9, f1, f2, f3⟩)
  obtain ⟨W0, hW0⟩ : ∃ W0, W0 = W.alloc (insO ⟨9, f1, f2, f3⟩) := ⟨_, rfl⟩
  rw [← hW0] at hb0 hk0 hbx
  have H0 := Lib.hid hb0
  have K0 := Lib.hid hk0
  have BX := Lib.hid hbx
  have E0 := Lib.hid hW0
  have HM := Lib.hid hm
  clear hb0 hk0 hbx hW0 h hm
  go_enter Try.func21, Try.ntmps21
  go_wp2_with fail
  rw [show (W.alloc (.cells #[.int .i64 9, .int .i64 f1, .int .i64 f2, .int .u32 f3] 25)) = W0 from E0.out.symm]
  refine (mpop H0.out HM.out H_hx.out).mono ?_
  rintro e' w1 ⟨rfl, hk1, v1, h1⟩
  have H1 := Lib.hid h1
  have K1 := Lib.hid (K0.out.trans hk1)
  obtain ⟨_, b1, _, _⟩ := ins_cells BX.out hk1
  obtain ⟨c5, g5⟩ := h1.fcell rfl
  have HS := Lib.hid (h1.setAt rfl f1)
  clear hk1 h1
  have hu0 : (u == 0) = false := by rw [beq_eq_false_iff_ne]; exact H_hu.out
  go_wp2_with fail
  go_end0
  exact ⟨rfl, K1.out, _, _, _, H1.out⟩
set_option maxHeartbeats 2000000 in
set_option maxRecDepth 100000 in
theorem do_not0 (h : Mach w0 W mb ((fb, v) :: ps) wb outv callsv sw SA sc fs m) (hm : m.calls = x :: xs) {l : List Int} (hx : x.l = 0 :: l) (hll : x.l.length * 4 ≤ 140737488355328) :
    Calls Try.prog 21 #[.pointer (some ⟨mb, 0, none⟩), .pointer (some ⟨fb, 0, none⟩), insV ⟨7, f1, f2, f3⟩] W fun e' w' => isRet e' ∧ Keep W w' ∧ ∃ ps1 outv1 callsv1, Mach w0 w' mb ps1 wb outv1 callsv1 sw SA sc fs { m with calls := { x with l := 1 :: l } :: xs } := by
  have H_hx := Lib.hid hx
  have H_hll := Lib.hid hll
  clear hx hll
  obtain ⟨hb0, hk0, hbx⟩ := h.box (insO ⟨7, f1, f2, f3⟩)
  obtain ⟨W0, hW0⟩ : ∃ W0, W0 = W.alloc (insO ⟨7, f1, f2, f3⟩) := ⟨_, rfl⟩
  rw [← hW0] at hb0 hk0 hbx
  have H0 := Lib.hid hb0
  have K0 := Lib.hid hk0
  have BX := Lib.hid hbx
  have E0 := Lib.hid hW0
  have HM := Lib.hid hm
  clear hb0 hk0 hbx hW0 h hm
  go_enter Try.func21, Try.ntmps21
  go_wp2_with fail
  rw [show (W.alloc (.cells #[.int .i64 7, .int .i64 f1, .int .i64 f2, .int .u32 f3] 25)) = W0 from E0.out.symm]
  have bD : Below W0.heap.size W0 W0.drew := below_drew (Below.refl _ _)
  have HD := Lib.hid (H0.out.later bD)
  have KD := Lib.hid (K0.out.trans (Keep.of_below bD))
  clear bD
  refine wp_region_held_drew (S := fun _ => True) (by kernel_rfl) trivial (fun hSd => ?_)
  refine wpAnyH_take (i := 0) (v := ?_) rfl (by kernel_rfl) (by kernel_rfl) (by kernel_rfl) (fun _ _ _ h => h) (Or.inl ⟨by rfl, ?_⟩) (by assumption) ?_
  rotate_left
  · (intro w hSw; (try dsimp only at hSw); go_simp; try with_reducible rfl)
  (try simp only [List.getElem_toArray, List.getElem_cons_succ, List.getElem_cons_zero, Act.put, List.setIfInBounds_toArray, List.set_cons_zero, List.set_cons_succ])
  refine wpAnyH_take (i := 1) (v := ?_) rfl (by kernel_rfl) (by kernel_rfl) (by kernel_rfl) (fun _ _ _ h => h) (Or.inl ⟨by rfl, ?_⟩) (by assumption) ?_
  rotate_left
  · (intro w hSw; (try dsimp only at hSw); go_simp; try with_reducible rfl)
  (try simp only [List.getElem_toArray, List.getElem_cons_succ, List.getElem_cons_zero, Act.put, List.setIfInBounds_toArray, List.set_cons_zero, List.set_cons_succ])
  refine wpAnyH_take (i := 2) (v := ?_) rfl (by kernel_rfl) (by kernel_rfl) (by kernel_rfl) (fun _ _ _ h => h) (Or.inl ⟨by rfl, ?_⟩) (by assumption) ?_
  rotate_left
  · (intro w hSw; (try dsimp only at hSw); go_simp; try with_reducible rfl)
  (try simp only [List.getElem_toArray, List.getElem_cons_succ, List.getElem_cons_zero, Act.put, List.setIfInBounds_toArray, List.set_cons_zero, List.set_cons_succ])
  refine wpAnyH_take (i := 3) (v := ?_) rfl (by kernel_rfl) (by kernel_rfl) (by kernel_rfl) (fun _ _ _ h => h) (Or.inl ⟨by rfl, ?_⟩) (by assumption) ?_
  rotate_left
  · (intro w hSw; (try dsimp only at hSw); go_simp; try with_reducible rfl)
  (try simp only [List.getElem_toArray, List.getElem_cons_succ, List.getElem_cons_zero, Act.put, List.setIfInBounds_toArray, List.set_cons_zero, List.set_cons_succ])
  refine wpAnyH_take (i := 4) (v := ?_) rfl (by kernel_rfl) (by kernel_rfl) (by kernel_rfl) (fun _ _ _ h => h) (Or.inl ⟨by rfl, ?_⟩) (by assumption) ?_
  rotate_left
  · (intro w hSw; (try dsimp only at hSw); go_simp; try with_reducible rfl)
  (try simp only [List.getElem_toArray, List.getElem_cons_succ, List.getElem_cons_zero, Act.put, List.setIfInBounds_toArray, List.set_cons_zero, List.set_cons_succ])
  refine wpAnyH_take (i := 5) (v := ?_) rfl (by kernel_rfl) (by kernel_rfl) (by kernel_rfl) (fun _ _ _ h => h) (Or.inl ⟨by rfl, ?_⟩) (by assumption) ?_
  rotate_left
  · (intro w hSw; (try dsimp only at hSw); go_simp; try with_reducible rfl)
  (try simp only [List.getElem_toArray, List.getElem_cons_succ, List.getElem_cons_zero, Act.put, List.setIfInBounds_toArray, List.set_cons_zero, List.set_cons_succ])
  refine wpAnyH_ready (rs := [6]) (by kernel_rfl) (by simp) ?_
  refine AllReadyH.cons rfl (fun K hK => ?_) AllReadyH.nil
  go_simp
  refine (mpop HD.out HM.out H_hx.out).mono ?_
  rintro e' w1 ⟨rfl, hk1, v1, h1⟩
  have H1 := Lib.hid h1
  have K1 := Lib.hid (KD.out.trans hk1)
  clear hk1 h1
  go_wp2_with fail
  refine hK.out _ _ trivial (fun hSe => ?_)
  clear hK K
  (try simp only [List.getElem_toArray, List.getElem_cons_succ, List.getElem_cons_zero, Act.put, List.setIfInBounds_toArray, List.set_cons_zero, List.set_cons_succ])
  refine wpAnyH_take (i := 7) (v := ?_) rfl (by kernel_rfl) (by kernel_rfl) (by kernel_rfl) (fun _ _ _ h => h) (Or.inl ⟨by rfl, ?_⟩) (by assumption) ?_
  rotate_left
  · (intro w hSw; (try dsimp only at hSw); go_simp; try with_reducible rfl)
  (try simp only [List.getElem_toArray, List.getElem_cons_succ, List.getElem_cons_zero, Act.put, List.setIfInBounds_toArray, List.set_cons_zero, List.set_cons_succ])
  refine wpAnyH_ready (rs := [8]) (by kernel_rfl) (by simp) ?_
  refine AllReadyH.cons rfl (fun K hK => ?_) AllReadyH.nil
  go_simp
  refine (stack_one.calls true 1 w1 rfl).mono ?_
  rintro e' w2 ⟨rfl, hd2⟩
  have H2 := Lib.hid (H1.out.later hd2.below)
  have K2 := Lib.hid (K1.out.trans (Keep.of_below hd2.below))
  clear hd2
  go_wp2_with fail
  refine hK.out _ _ trivial (fun hSg => ?_)
  clear hK K
  (try simp only [List.getElem_toArray, List.getElem_cons_succ, List.getElem_cons_zero, Act.put, List.setIfInBounds_toArray, List.set_cons_zero, List.set_cons_succ])
  refine wpAnyH_take (i := 9) (v := ?_) rfl (by kernel_rfl) (by kernel_rfl) (by kernel_rfl) (fun _ _ _ h => h) (Or.inl ⟨by rfl, ?_⟩) (by assumption) ?_
  rotate_left
  · (intro w hSw; (try dsimp only at hSw); go_simp; try with_reducible rfl)
  (try simp only [List.getElem_toArray, List.getElem_cons_succ, List.getElem_cons_zero, Act.put, List.setIfInBounds_toArray, List.set_cons_zero, List.set_cons_succ])
  refine wpAnyH_ready (rs := [10]) (by kernel_rfl) (by simp) ?_
  refine AllReadyH.cons rfl (fun K hK => ?_) AllReadyH.nil
  go_simp
  refine (mpush H2.out rfl 1 (by have := H_hll.out; rw [H_hx.out] at this; simpa using this)).mono ?_
  rintro e' w4 ⟨he4, hk4, v4, h4⟩
  have hr4 : e' = .returned (.tuple #[]) := he4
  subst hr4
  have H4 := Lib.hid h4
  have K4 := Lib.hid (K2.out.trans hk4)
  clear hk4 h4 he4
  go_wp2_with fail
  refine hK.out _ _ trivial (fun hSf => ?_)
  clear hK K
  (try simp only [List.getElem_toArray, List.getElem_cons_succ, List.getElem_cons_zero, Act.put, List.setIfInBounds_toArray, List.set_cons_zero, List.set_cons_succ])
  refine wpAnyH_done (by kernel_rfl) ?_ _
  go_wp2_with fail
  go_end0
  exact ⟨rfl, K4.out, _, _, _, H4.out⟩
set_option maxHeartbeats 2000000 in
set_option maxRecDepth 100000 in
theorem do_not1 (h : Mach w0 W mb ((fb, v) :: ps) wb outv callsv sw SA sc fs m) (hm : m.calls = x :: xs) {u : Int} {l : List Int} (hx : x.l = u :: l) (hu : u ≠ 0) (hll : x.l.length * 4 ≤ 140737488355328) :
    Calls Try.prog 21 #[.pointer (some ⟨mb, 0, none⟩), .pointer (some ⟨fb, 0, none⟩), insV ⟨7, f1, f2, f3⟩] W fun e' w' => isRet e' ∧ Keep W w' ∧ ∃ ps1 outv1 callsv1, Mach w0 w' mb ps1 wb outv1 callsv1 sw SA sc fs { m with calls := { x with l := 0 :: l } :: xs } := by
  have H_hx := Lib.hid hx
  have H_hu := Lib.hid hu
  have H_hll := Lib.hid hll
  clear hx hu hll
  obtain ⟨hb0, hk0, hbx⟩ := h.box (insO ⟨7, f1, f2, f3⟩)
  obtain ⟨W0, hW0⟩ : ∃ W0, W0 = W.alloc (insO ⟨7, f1, f2, f3⟩) := ⟨_, rfl⟩
  rw [← hW0] at hb0 hk0 hbx
  have H0 := Lib.hid hb0
  have K0 := Lib.hid hk0
  have BX := Lib.hid hbx
  have E0 := Lib.hid hW0
  have HM := Lib.hid hm
  clear hb0 hk0 hbx hW0 h hm
  go_enter Try.func21, Try.ntmps21
  go_wp2_with fail
  rw [show (W.alloc (.cells #[.int .i64 7, .int .i64 f1, .int .i64 f2, .int .u32 f3] 25)) = W0 from E0.out.symm]
  have bD : Below W0.heap.size W0 W0.drew := below_drew (Below.refl _ _)
  have HD := Lib.hid (H0.out.later bD)
  have KD := Lib.hid (K0.out.trans (Keep.of_below bD))
  clear bD
  have hu0 : (u == 0) = false := by rw [beq_eq_false_iff_ne]; exact H_hu.out
  refine wp_region_held_drew (S := fun _ => True) (by kernel_rfl) trivial (fun hSd => ?_)
  refine wpAnyH_take (i := 0) (v := ?_) rfl (by kernel_rfl) (by kernel_rfl) (by kernel_rfl) (fun _ _ _ h => h) (Or.inl ⟨by rfl, ?_⟩) (by assumption) ?_
  rotate_left
  · (intro w hSw; (try dsimp only at hSw); go_simp; try with_reducible rfl)
  (try simp only [List.getElem_toArray, List.getElem_cons_succ, List.getElem_cons_zero, Act.put, List.setIfInBounds_toArray, List.set_cons_zero, List.set_cons_succ])
  refine wpAnyH_take (i := 1) (v := ?_) rfl (by kernel_rfl) (by kernel_rfl) (by kernel_rfl) (fun _ _ _ h => h) (Or.inl ⟨by rfl, ?_⟩) (by assumption) ?_
  rotate_left
  · (intro w hSw; (try dsimp only at hSw); go_simp; try with_reducible rfl)
  (try simp only [List.getElem_toArray, List.getElem_cons_succ, List.getElem_cons_zero, Act.put, List.setIfInBounds_toArray, List.set_cons_zero, List.set_cons_succ])
  refine wpAnyH_take (i := 2) (v := ?_) rfl (by kernel_rfl) (by kernel_rfl) (by kernel_rfl) (fun _ _ _ h => h) (Or.inl ⟨by rfl, ?_⟩) (by assumption) ?_
  rotate_left
  · (intro w hSw; (try dsimp only at hSw); go_simp; try with_reducible rfl)
  (try simp only [List.getElem_toArray, List.getElem_cons_succ, List.getElem_cons_zero, Act.put, List.setIfInBounds_toArray, List.set_cons_zero, List.set_cons_succ])
  refine wpAnyH_take (i := 3) (v := ?_) rfl (by kernel_rfl) (by kernel_rfl) (by kernel_rfl) (fun _ _ _ h => h) (Or.inl ⟨by rfl, ?_⟩) (by assumption) ?_
  rotate_left
  · (intro w hSw; (try dsimp only at hSw); go_simp; try with_reducible rfl)
  (try simp only [List.getElem_toArray, List.getElem_cons_succ, List.getElem_cons_zero, Act.put, List.setIfInBounds_toArray, List.set_cons_zero, List.set_cons_succ])
  refine wpAnyH_take (i := 4) (v := ?_) rfl (by kernel_rfl) (by kernel_rfl) (by kernel_rfl) (fun _ _ _ h => h) (Or.inl ⟨by rfl, ?_⟩) (by assumption) ?_
  rotate_left
  · (intro w hSw; (try dsimp only at hSw); go_simp; try with_reducible rfl)
  (try simp only [List.getElem_toArray, List.getElem_cons_succ, List.getElem_cons_zero, Act.put, List.setIfInBounds_toArray, List.set_cons_zero, List.set_cons_succ])
  refine wpAnyH_take (i := 5) (v := ?_) rfl (by kernel_rfl) (by kernel_rfl) (by kernel_rfl) (fun _ _ _ h => h) (Or.inl ⟨by rfl, ?_⟩) (by assumption) ?_
  rotate_left
  · (intro w hSw; (try dsimp only at hSw); go_simp; try with_reducible rfl)
  (try simp only [List.getElem_toArray, List.getElem_cons_succ, List.getElem_cons_zero, Act.put, List.setIfInBounds_toArray, List.set_cons_zero, List.set_cons_succ])
  refine wpAnyH_ready (rs := [6]) (by kernel_rfl) (by simp) ?_
  refine AllReadyH.cons rfl (fun K hK => ?_) AllReadyH.nil
  go_simp
  refine (mpop HD.out HM.out H_hx.out).mono ?_
  rintro e' w1 ⟨rfl, hk1, v1, h1⟩
  have H1 := Lib.hid h1
  have K1 := Lib.hid (KD.out.trans hk1)
  clear hk1 h1
  go_wp2_with fail
  refine hK.out _ _ trivial (fun hSe => ?_)
  clear hK K
  (try simp only [List.getElem_toArray, List.getElem_cons_succ, List.getElem_cons_zero, Act.put, List.setIfInBounds_toArray, List.set_cons_zero, List.set_cons_succ])
  refine wpAnyH_take (i := 7) (v := ?_) rfl (by kernel_rfl) (by kernel_rfl) (by kernel_rfl) (fun _ _ _ h => h) (Or.inl ⟨by rfl, ?_⟩) (by assumption) ?_
  rotate_left
  · (intro w hSw; (try dsimp only at hSw); go_simp; try with_reducible rfl)
  (try simp only [List.getElem_toArray, List.getElem_cons_succ, List.getElem_cons_zero, Act.put, List.setIfInBounds_toArray, List.set_cons_zero, List.set_cons_succ])
  refine wpAnyH_ready (rs := [8]) (by kernel_rfl) (by simp) ?_
  refine AllReadyH.cons rfl (fun K hK => ?_) AllReadyH.nil
  go_simp
  refine (stack_one.calls false 0 w1 rfl).mono ?_
  rintro e' w2 ⟨rfl, hd2⟩
  have H2 := Lib.hid (H1.out.later hd2.below)
  have K2 := Lib.hid (K1.out.trans (Keep.of_below hd2.below))
  clear hd2
  go_wp2_with fail
  refine hK.out _ _ trivial (fun hSg => ?_)
  clear hK K
  (try simp only [List.getElem_toArray, List.getElem_cons_succ, List.getElem_cons_zero, Act.put, List.setIfInBounds_toArray, List.set_cons_zero, List.set_cons_succ])
  refine wpAnyH_take (i := 9) (v := ?_) rfl (by kernel_rfl) (by kernel_rfl) (by kernel_rfl) (fun _ _ _ h => h) (Or.inl ⟨by rfl, ?_⟩) (by assumption) ?_
  rotate_left
  · (intro w hSw; (try dsimp only at hSw); go_simp; try with_reducible rfl)
  (try simp only [List.getElem_toArray, List.getElem_cons_succ, List.getElem_cons_zero, Act.put, List.setIfInBounds_toArray, List.set_cons_zero, List.set_cons_succ])
  refine wpAnyH_ready (rs := [10]) (by kernel_rfl) (by simp) ?_
  refine AllReadyH.cons rfl (fun K hK => ?_) AllReadyH.nil
  go_simp
  refine (mpush H2.out rfl 0 (by have := H_hll.out; rw [H_hx.out] at this; simpa using this)).mono ?_
  rintro e' w4 ⟨he4, hk4, v4, h4⟩
  have hr4 : e' = .returned (.tuple #[]) := he4
  subst hr4
  have H4 := Lib.hid h4
  have K4 := Lib.hid (K2.out.trans hk4)
  clear hk4 h4 he4
  go_wp2_with fail
  refine hK.out _ _ trivial (fun hSf => ?_)
  clear hK K
  (try simp only [List.getElem_toArray, List.getElem_cons_succ, List.getElem_cons_zero, Act.put, List.setIfInBounds_toArray, List.set_cons_zero, List.set_cons_succ])
  refine wpAnyH_done (by kernel_rfl) ?_ _
  go_wp2_with fail
  go_end0
  exact ⟨rfl, K4.out, _, _, _, H4.out⟩
set_option maxHeartbeats 2000000 in
set_option maxRecDepth 100000 in
theorem do_call (h : Mach w0 W mb ((fb, v) :: ps) wb outv callsv sw SA sc fs m) (hm : m.calls = x :: xs) {args l : List Int} (hC : k28.C w0 SA fs.length fs) (hf0 : 0 ≤ f1) (hf1 : f1 < fs.length) (hp : (rd_T28 fs f1).f0 = args.length) (hx : x.l = args.reverse ++ l) (hll : x.l.length * 4 ≤ 140737488355328) (m' : Mc) (hc : callF fs f1 args { m with calls := { x with l := l } :: xs } = some m') (hcl : (((fb, v) :: ps).length + 1) * 8 ≤ 140737488355328) (hwl : m.words.length ≤ 1000000) :
    Calls Try.prog 21 #[.pointer (some ⟨mb, 0, none⟩), .pointer (some ⟨fb, 0, none⟩), insV ⟨10, f1, f2, f3⟩] W fun e' w' => isRet e' ∧ Keep W w' ∧ ∃ ps1 outv1 callsv1, Mach w0 w' mb ps1 wb outv1 callsv1 sw SA sc fs m' := by
  obtain ⟨ad, A4, c4, hSA, q0, _, _, _, _, _, _⟩ := at_T28 hC f1 hf0 hf1
  subst hSA
  rw [hp] at q0
  have HQ0 := Lib.hid q0
  clear q0 hp
  have H_hC := Lib.hid hC
  have H_hx := Lib.hid hx
  have H_hll := Lib.hid hll
  have H_hc := Lib.hid hc
  have H_hcl := Lib.hid hcl
  have H_hwl := Lib.hid hwl
  clear hC hx hll hc hcl hwl
  obtain ⟨hb0, hk0, hbx⟩ := h.box (insO ⟨10, f1, f2, f3⟩)
  obtain ⟨W0, hW0⟩ : ∃ W0, W0 = W.alloc (insO ⟨10, f1, f2, f3⟩) := ⟨_, rfl⟩
  rw [← hW0] at hb0 hk0 hbx
  have H0 := Lib.hid hb0
  have K0 := Lib.hid hk0
  have BX := Lib.hid hbx
  have E0 := Lib.hid hW0
  have HM := Lib.hid hm
  clear hb0 hk0 hbx hW0 h hm
  go_enter Try.func21, Try.ntmps21
  go_wp2_with fail
  rw [show (W.alloc (.cells #[.int .i64 10, .int .i64 f1, .int .i64 f2, .int .u32 f3] 25)) = W0 from E0.out.symm]
  have HSS := Lib.hid (show ∀ V, Keep W0 V → (∃ m' ps1 outv1 callsv1, Mach w0 V mb ps1 wb outv1 callsv1 sw (some ad) sc fs m') → (V.cell? ⟨mb, 1, none⟩ = some (.slice (some ad) fs.length sc) ∧ V.cell? ⟨W.heap.size, 1, none⟩ = some (.int .i64 f1) ∧ V.cell? (ad.add (f1.toNat * 5)) = some (.int .i64 args.length)) from fun V hk ⟨_, _, _, _, hV⟩ =>
    ⟨hV.mcell.2.1, (ins_cells BX.out hk).2.1, pw_cell_below hV.bel HQ0.out⟩)
  have bD : Below W0.heap.size W0 W0.drew := below_drew (Below.refl _ _)
  have HD := Lib.hid (H0.out.later bD)
  have KD := Lib.hid (Keep.of_below bD)
  clear bD
  refine wp_region_held_drew (S := fun w' => w'.cell? ⟨mb, 1, none⟩ = some (.slice (some ad) fs.length sc) ∧ w'.cell? ⟨W.heap.size, 1, none⟩ = some (.int .i64 f1) ∧ w'.cell? (ad.add (f1.toNat * 5)) = some (.int .i64 args.length)) (by kernel_rfl) (HSS.out _ KD.out ⟨_, _, _, _, HD.out⟩) (fun hSd => ?_)
  refine wpAnyH_take (i := 0) (v := ?_) rfl (by kernel_rfl) (by kernel_rfl) (by kernel_rfl) (fun _ _ _ h => h) (Or.inl ⟨by rfl, ?_⟩) (by assumption) ?_
  rotate_left
  · (intro w hSw; (try dsimp only at hSw); go_simp; try with_reducible rfl)
  (try simp only [List.getElem_toArray, List.getElem_cons_succ, List.getElem_cons_zero, Act.put, List.setIfInBounds_toArray, List.set_cons_zero, List.set_cons_succ])
  refine wpAnyH_take (i := 1) (v := ?_) rfl (by kernel_rfl) (by kernel_rfl) (by kernel_rfl) (fun _ _ _ h => h) (Or.inl ⟨by rfl, ?_⟩) (by assumption) ?_
  rotate_left
  · (intro w hSw; (try dsimp only at hSw); go_simp; try with_reducible rfl)
  (try simp only [List.getElem_toArray, List.getElem_cons_succ, List.getElem_cons_zero, Act.put, List.setIfInBounds_toArray, List.set_cons_zero, List.set_cons_succ])
  refine wpAnyH_take (i := 2) (v := ?_) rfl (by kernel_rfl) (by kernel_rfl) (by kernel_rfl) (fun _ _ _ h => h) (Or.inl ⟨by rfl, ?_⟩) (by assumption) ?_
  rotate_left
  · (intro w hSw; (try dsimp only at hSw); go_simp; try with_reducible rfl)
  (try simp only [List.getElem_toArray, List.getElem_cons_succ, List.getElem_cons_zero, Act.put, List.setIfInBounds_toArray, List.set_cons_zero, List.set_cons_succ])
  refine wpAnyH_take (i := 3) (v := ?_) rfl (by kernel_rfl) (by kernel_rfl) (by kernel_rfl) (fun _ _ _ h => h) (Or.inl ⟨by rfl, ?_⟩) (by assumption) ?_
  rotate_left
  · (intro w hSw; (try dsimp only at hSw); go_simp; try with_reducible rfl)
  (try simp only [List.getElem_toArray, List.getElem_cons_succ, List.getElem_cons_zero, Act.put, List.setIfInBounds_toArray, List.set_cons_zero, List.set_cons_succ])
  refine wpAnyH_take (i := 4) (v := ?_) rfl (by kernel_rfl) (by kernel_rfl) (by kernel_rfl) (fun _ _ _ h => h) (Or.inl ⟨by rfl, ?_⟩) (by assumption) ?_
  rotate_left
  · (intro w hSw; (try dsimp only at hSw); go_simp; try with_reducible rfl)
  (try simp only [List.getElem_toArray, List.getElem_cons_succ, List.getElem_cons_zero, Act.put, List.setIfInBounds_toArray, List.set_cons_zero, List.set_cons_succ])
  refine wpAnyH_take (i := 5) (v := ?_) rfl (by kernel_rfl) (by kernel_rfl) (by kernel_rfl) (fun _ _ _ h => h) (Or.inl ⟨by rfl, ?_⟩) (by assumption) ?_
  rotate_left
  · (intro w hSw; (try dsimp only at hSw); go_simp; try with_reducible rfl)
  (try simp only [List.getElem_toArray, List.getElem_cons_succ, List.getElem_cons_zero, Act.put, List.setIfInBounds_toArray, List.set_cons_zero, List.set_cons_succ])
  refine wpAnyH_take (i := 6) (v := ?_) rfl (by kernel_rfl) (by kernel_rfl) (by kernel_rfl) (fun _ _ _ h => h) (Or.inl ⟨by rfl, ?_⟩) (by assumption) ?_
  rotate_left
  · (intro w hSw; (try dsimp only at hSw); go_simp; try with_reducible rfl)
  (try simp only [List.getElem_toArray, List.getElem_cons_succ, List.getElem_cons_zero, Act.put, List.setIfInBounds_toArray, List.set_cons_zero, List.set_cons_succ])
  refine wpAnyH_take (i := 7) (v := ?_) rfl (by kernel_rfl) (by kernel_rfl) (by kernel_rfl) (fun _ _ _ h => h) (Or.inl ⟨by rfl, ?_⟩) (by assumption) ?_
  rotate_left
  · (intro w hSw; (try dsimp only at hSw); go_simp; try with_reducible rfl)
  (try simp only [List.getElem_toArray, List.getElem_cons_succ, List.getElem_cons_zero, Act.put, List.setIfInBounds_toArray, List.set_cons_zero, List.set_cons_succ])
  refine wpAnyH_take (i := 8) (v := ?_) rfl (by kernel_rfl) (by kernel_rfl) (by kernel_rfl) (fun _ _ _ h => h) (Or.inl ⟨by rfl, ?_⟩) (by assumption) ?_
  rotate_left
  · (intro w hSw; (try dsimp only at hSw); go_simp; try with_reducible rfl)
  (try simp only [List.getElem_toArray, List.getElem_cons_succ, List.getElem_cons_zero, Act.put, List.setIfInBounds_toArray, List.set_cons_zero, List.set_cons_succ])
  refine wpAnyH_take (i := 9) (v := ?_) rfl (by kernel_rfl) (by kernel_rfl) (by kernel_rfl) (fun _ _ _ h => h) (Or.inl ⟨by rfl, ?_⟩) (by assumption) ?_
  rotate_left
  · (intro w hSw; (try dsimp only at hSw); go_simp; try with_reducible rfl)
  (try simp only [List.getElem_toArray, List.getElem_cons_succ, List.getElem_cons_zero, Act.put, List.setIfInBounds_toArray, List.set_cons_zero, List.set_cons_succ])
  refine wpAnyH_take (i := 10) (v := ?_) rfl (by kernel_rfl) (by kernel_rfl) (by kernel_rfl) (fun _ _ _ h => h) (Or.inl ⟨by rfl, ?_⟩) (by assumption) ?_
  rotate_left
  · (intro w hSw; (try dsimp only at hSw); go_simp; try with_reducible rfl)
  (try simp only [List.getElem_toArray, List.getElem_cons_succ, List.getElem_cons_zero, Act.put, List.setIfInBounds_toArray, List.set_cons_zero, List.set_cons_succ])
  refine wpAnyH_take (i := 11) (v := ?_) rfl (by kernel_rfl) (by kernel_rfl) (by kernel_rfl) (fun _ _ _ h => h) (Or.inl ⟨by rfl, ?_⟩) (by assumption) ?_
  rotate_left
  · (intro w hSw; (try dsimp only at hSw); go_simp; try with_reducible rfl)
  (try simp only [List.getElem_toArray, List.getElem_cons_succ, List.getElem_cons_zero, Act.put, List.setIfInBounds_toArray, List.set_cons_zero, List.set_cons_succ])
  refine wpAnyH_take (i := 12) (v := ?_) rfl (by kernel_rfl) (by kernel_rfl) (by kernel_rfl) (fun _ _ _ h => h) (Or.inl ⟨by rfl, ?_⟩) (by assumption) ?_
  rotate_left
  · (intro w hSw; (try dsimp only at hSw); go_simp; try with_reducible rfl)
  (try simp only [List.getElem_toArray, List.getElem_cons_succ, List.getElem_cons_zero, Act.put, List.setIfInBounds_toArray, List.set_cons_zero, List.set_cons_succ])
  refine wpAnyH_take (i := 13) (v := ?_) rfl (by kernel_rfl) (by kernel_rfl) (by kernel_rfl) (fun _ _ _ h => h) (Or.inl ⟨by rfl, ?_⟩) (by assumption) ?_
  rotate_left
  · (intro w hSw; (try dsimp only at hSw); go_simp; try with_reducible rfl)
  (try simp only [List.getElem_toArray, List.getElem_cons_succ, List.getElem_cons_zero, Act.put, List.setIfInBounds_toArray, List.set_cons_zero, List.set_cons_succ])
  refine wpAnyH_take (i := 14) (v := ?_) rfl (by kernel_rfl) (by kernel_rfl) (by kernel_rfl) (fun _ _ _ h => h) (Or.inl ⟨by rfl, ?_⟩) (by assumption) ?_
  rotate_left
  · (intro w hSw; (try dsimp only at hSw); go_simp; try with_reducible rfl)
  (try simp only [List.getElem_toArray, List.getElem_cons_succ, List.getElem_cons_zero, Act.put, List.setIfInBounds_toArray, List.set_cons_zero, List.set_cons_succ])
  refine wpAnyH_take (i := 15) (v := ?_) rfl (by kernel_rfl) (by kernel_rfl) (by kernel_rfl) (fun _ _ _ h => h) (Or.inl ⟨by rfl, ?_⟩) (by assumption) ?_
  rotate_left
  · (intro w hSw; (try dsimp only at hSw); go_simp; try with_reducible rfl)
  (try simp only [List.getElem_toArray, List.getElem_cons_succ, List.getElem_cons_zero, Act.put, List.setIfInBounds_toArray, List.set_cons_zero, List.set_cons_succ])
  refine wpAnyH_ready (rs := [16]) (by kernel_rfl) (by simp) ?_
  refine AllReadyH.cons rfl (fun K hK => ?_) AllReadyH.nil
  go_simp
  refine (mtake (args := args) HD.out HM.out H_hx.out H_hll.out).mono ?_
  rintro e' w1 ⟨r, rfl, hk1, ⟨v1, h1⟩, hr⟩
  obtain ⟨rA, rc, rfl, hR⟩ := own_reads hr
  have HRA := Lib.hid (show ∀ ad', rA = some ad' → ad'.block ≠ wb from fun ad' e => by
    subst e
    have h1 := own_base hr ad'.block rfl
    have h2 := blk_lt HD.out.wblk
    have e3 : W0.drew.heap.size = W0.heap.size := rfl
    omega)
  have HR := Lib.hid hR
  have H1 := Lib.hid h1
  have K1 := Lib.hid (KD.out.trans hk1)
  clear hk1 h1 hr hR
  go_wp2_with fail
  refine hK.out _ _ (HSS.out w1 K1.out ⟨_, _, _, _, H1.out⟩) (fun hSe => ?_)
  clear hK K
  (try simp only [List.getElem_toArray, List.getElem_cons_succ, List.getElem_cons_zero, Act.put, List.setIfInBounds_toArray, List.set_cons_zero, List.set_cons_succ])
  refine wpAnyH_ready (rs := [17]) (by kernel_rfl) (by simp) ?_
  refine AllReadyH.cons rfl (fun K hK => ?_) AllReadyH.nil
  go_simp
  refine (call_any H1.out H_hC.out f1 HR.out HRA.out m' H_hc.out (by have := H_hcl.out; simpa using this) H_hwl.out).mono ?_
  rintro e' w4 ⟨he4, hk4, nb, cv, h4⟩
  have hr4 : e' = .returned (.tuple #[]) := he4
  subst hr4
  have H4 := Lib.hid h4
  have K4 := Lib.hid (K1.out.trans hk4)
  clear hk4 h4 he4
  go_wp2_with fail
  refine hK.out _ _ (HSS.out w4 K4.out ⟨_, _, _, _, H4.out⟩) (fun hSf => ?_)
  clear hK K
  (try simp only [List.getElem_toArray, List.getElem_cons_succ, List.getElem_cons_zero, Act.put, List.setIfInBounds_toArray, List.set_cons_zero, List.set_cons_succ])
  refine wpAnyH_done (by kernel_rfl) ?_ _
  go_wp2_with fail
  go_end0
  exact ⟨rfl, K0.out.trans K4.out, _, _, _, H4.out⟩
end
end Go.Proofs.Ytlngcolnjgloaaa
