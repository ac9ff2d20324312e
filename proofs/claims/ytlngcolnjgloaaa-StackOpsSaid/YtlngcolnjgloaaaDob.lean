/- The stack machine's array. Conditions: rows below 2^47 bytes. -/
import Derived.Test.YtlngcolnjgloaaaDoa
namespace Go.Proofs.Ytlngcolnjgloaaa
open Go.RowKit Go.Proofs.YtlngcolnjgloaaaW.PrintWords PStackRuns
set_option linter.unusedVariables false
set_option linter.unusedSimpArgs false

section
variable {w0 W : World} {mb wb sc fb : Nat} {ps : List (Nat × Value)} {outv callsv v : Value} {sw : Int} {SA : Option Addr} {fs : List S28} {m : Mc} {x : Fr} {xs : List Fr} {i : S25}

theorem Mach.wcell (h : Mach w0 W mb ps wb outv callsv sw SA sc fs m) (n : Nat) (hn : n < m.words.length) : W.cell? ⟨wb, n, none⟩ = some (.int .u32 (rd m.words n)) ∧ W.frozen? ⟨wb, n, none⟩ = false := by
  refine ⟨?_, blk_frozen h.wblk n⟩
  rw [blk_cell h.wblk]
  simp [nums, rd, List.getElem?_eq_getElem hn]

theorem Mach.setW (h : Mach w0 W mb ps wb outv callsv sw SA sc fs m) (n : Nat) (u : Int) : Mach w0 (W.setCell ⟨wb, n, none⟩ (.int .u32 u)) mb ps wb outv callsv sw SA sc fs { m with words := m.words.set n u } ∧ Keep W (W.setCell ⟨wb, n, none⟩ (.int .u32 u)) := by
  have hs : ∀ i, i < W.heap.size → i ≠ wb → (W.setCell ⟨wb, n, none⟩ (.int .u32 u)).heap[i]? = W.heap[i]? := fun i _ hi => Below.heap_setCell _ _ _ _ (by exact hi)
  refine ⟨h.wset (h.bel.setCell (p := ⟨wb, n, none⟩) h.gew _) hs _ (by simp) ?_, ⟨by simp, fun j cs t ht hb => ?_⟩⟩
  · have := blk_set h.wblk n (.int .u32 u)
    simpa [nums, List.map_set] using this
  · rw [hs j (blk_lt hb) (ty_ne hb h.wblk (by rcases ht with rfl | rfl | rfl | rfl <;> decide))]
    exact hb


set_option maxHeartbeats 1000000 in
set_option maxRecDepth 100000 in
theorem aload_far {u : Int} {l : List Int} (h : Mach w0 W mb ((fb, v) :: ps) wb outv callsv sw SA sc fs m) (hm : m.calls = x :: xs) (hx : x.l = u :: l) (hi : i.f0 = 4) (hu : word u) (h0 : 0 ≤ i.f2) (h1 : i.f2 ≤ 4096) (hl : ¬ u < i.f2) :
    Calls Try.prog 34 #[.pointer (some ⟨mb, 0, none⟩), .pointer (some ⟨fb, 0, none⟩), insV i] W fun e' w' => isRet e' ∧ Keep W w' ∧ ∃ v1, Mach w0 w' mb ((fb, v1) :: ps) wb outv callsv sw SA sc fs { m with calls := { x with l := l } :: xs, end_ := 3 } := by
  obtain ⟨hb0, hk0, hbx⟩ := h.box (insO i)
  obtain ⟨W0, hW0⟩ : ∃ W0, W0 = W.alloc (insO i) := ⟨_, rfl⟩
  rw [← hW0] at hb0 hk0 hbx
  have H0 := Lib.hid hb0
  have K0 := Lib.hid hk0
  have BX := Lib.hid hbx
  have E0 := Lib.hid hW0
  clear hb0 hk0 hbx hW0 h
  have HM := Lib.hid hm
  have HX := Lib.hid hx
  have HU := Lib.hid (And.intro hu (And.intro h0 (And.intro h1 hl)))
  have i0 : (i.f0 == 4) = true := by rw [beq_iff_eq]; exact hi
  clear hm hx hi hu h0 h1 hl
  go_enter Try.func34, Try.ntmps34
  go_wp2_with fail
  rw [← E0.out]
  refine (mpop H0.out HM.out HX.out).mono ?_
  rintro e' w1 ⟨rfl, hk1, v1, h1⟩
  have H1 := Lib.hid h1
  have K1 := Lib.hid (K0.out.trans hk1)
  obtain ⟨_, _, b2, _⟩ := ins_cells BX.out hk1
  clear hk1 h1
  go_wp2_with fail
  refine (far_yes H1.out u i.f2 HU.out.1 HU.out.2.1 HU.out.2.2.1 (by have := HU.out.2.2.2; omega)).mono ?_
  rintro e' w2 ⟨rfl, h2, hk2⟩
  have H2 := Lib.hid h2
  have K2 := Lib.hid (K1.out.trans hk2)
  clear h2 hk2
  go_wp2_with fail
  exact bodyPost_ret (results_none rfl _ _ _) rfl ⟨rfl, K2.out, v1, H2.out⟩

set_option maxHeartbeats 1000000 in
set_option maxRecDepth 100000 in
theorem aload_near {u : Int} {l : List Int} (h : Mach w0 W mb ((fb, v) :: ps) wb outv callsv sw SA sc fs m) (hm : m.calls = x :: xs) (hx : x.l = u :: l) (hi : i.f0 = 4) (hu : word u) (h0 : 0 ≤ i.f2) (h1 : i.f2 ≤ 4096) (hl : u < i.f2) (ha : 0 ≤ i.f1) (hw : i.f1 + u < m.words.length) (hll : x.l.length * 4 ≤ 140737488355328) (hwl : m.words.length ≤ 1000000) :
    Calls Try.prog 34 #[.pointer (some ⟨mb, 0, none⟩), .pointer (some ⟨fb, 0, none⟩), insV i] W fun e' w' => isRet e' ∧ Keep W w' ∧ ∃ v1, Mach w0 w' mb ((fb, v1) :: ps) wb outv callsv sw SA sc fs { m with calls := { x with l := rd m.words (i.f1 + u) :: l } :: xs } := by
  have hl2 : (l.length + 1) * 4 ≤ 140737488355328 := by rw [hx] at hll; simp at hll; omega
  obtain ⟨hb0, hk0, hbx⟩ := h.box (insO i)
  obtain ⟨W0, hW0⟩ : ∃ W0, W0 = W.alloc (insO i) := ⟨_, rfl⟩
  rw [← hW0] at hb0 hk0 hbx
  have H0 := Lib.hid hb0
  have K0 := Lib.hid hk0
  have BX := Lib.hid hbx
  have E0 := Lib.hid hW0
  clear hb0 hk0 hbx hW0 h
  have HM := Lib.hid hm
  have HX := Lib.hid hx
  have HU := Lib.hid (And.intro hu (And.intro h0 (And.intro h1 hl)))
  have i0 : (i.f0 == 4) = true := by rw [beq_iff_eq]; exact hi
  obtain ⟨u0, u1⟩ := hu
  obtain ⟨n, hn⟩ := Int.eq_ofNat_of_zero_le (show 0 ≤ i.f1 + u by omega)
  have hnw : n < m.words.length := by omega
  have HN := Lib.hid hn
  have HNW := Lib.hid hnw
  have wu : IntKind.i64.wrap u = u := IntWalk.i64_in _ (by omega)
  have wn : IntKind.i64.wrap (n : Int) = n := IntWalk.i64_in _ (by omega)
  have n1 : (n : Int) < m.words.length := by omega
  clear hm hx hi h0 h1 hl hll
  go_enter Try.func34, Try.ntmps34
  go_wp2_with fail
  rw [← E0.out]
  refine (mpop H0.out HM.out HX.out).mono ?_
  rintro e' w1 ⟨rfl, hk1, v1, h1⟩
  have H1 := Lib.hid h1
  have K1 := Lib.hid (K0.out.trans hk1)
  obtain ⟨_, _, b2, _⟩ := ins_cells BX.out hk1
  have KB1 := Lib.hid hk1
  clear hk1 h1
  go_wp2_with fail
  refine (far_no w1 mb u i.f2 HU.out.1 HU.out.2.1 HU.out.2.2.1 HU.out.2.2.2).mono ?_
  rintro e' w2 ⟨rfl, rfl⟩
  clear b2
  go_wp2_with fail
  obtain ⟨W3, hW3⟩ : ∃ W3 : World, W3 = { w1 with drawn := w1.drawn + 1 } := ⟨_, rfl⟩
  have hB3 : Below w1.heap.size w1 W3 := by rw [hW3]; exact below_drew (Below.refl _ _)
  have H3 := Lib.hid (H1.out.later hB3)
  have K3 := Lib.hid (K1.out.trans (Keep.of_below hB3))
  obtain ⟨_, b1, _, _⟩ := ins_cells BX.out (KB1.out.trans (Keep.of_below hB3))
  refine wp_region_still_tail 14 (by kernel_rfl) (by kernel_rfl) ?_
  rw [← hW3]
  obtain ⟨_, _, _, d3, _, _, _, _⟩ := H3.out.mcell
  obtain ⟨c1, _⟩ := H3.out.wcell n HNW.out
  clear hW3 hB3
  simp only [List.take_succ_cons, List.take_zero, List.drop_succ_cons, List.drop_zero]
  repeat still_step
  refine wpStill_nil ?_
  clear wu wn
  go_wp2_with fail
  refine (mpush H3.out rfl (rd m.words n) hl2).mono ?_
  rintro e' w4 ⟨he4, hk4, v4, h4⟩
  have hr4 : e' = .returned (.tuple #[]) := he4
  subst hr4
  have H4 := Lib.hid h4
  have K4 := Lib.hid (K3.out.trans hk4)
  clear hk4 h4 he4
  go_wp2_with fail
  exact bodyPost_ret (results_none rfl _ _ _) rfl ⟨rfl, K4.out, v4, by first | exact H4.out | (rw [HN.out]; exact H4.out)⟩
set_option maxHeartbeats 1000000 in
set_option maxRecDepth 100000 in
theorem astore_far {u y : Int} {l : List Int} (h : Mach w0 W mb ((fb, v) :: ps) wb outv callsv sw SA sc fs m) (hm : m.calls = x :: xs) (hx : x.l = y :: u :: l) (hi : i.f0 = 5) (hu : word u) (h0 : 0 ≤ i.f2) (h1 : i.f2 ≤ 4096) (hl : ¬ u < i.f2) :
    Calls Try.prog 34 #[.pointer (some ⟨mb, 0, none⟩), .pointer (some ⟨fb, 0, none⟩), insV i] W fun e' w' => isRet e' ∧ Keep W w' ∧ ∃ v1, Mach w0 w' mb ((fb, v1) :: ps) wb outv callsv sw SA sc fs { m with calls := { x with l := l } :: xs, end_ := 3 } := by
  obtain ⟨hb0, hk0, hbx⟩ := h.box (insO i)
  obtain ⟨W0, hW0⟩ : ∃ W0, W0 = W.alloc (insO i) := ⟨_, rfl⟩
  rw [← hW0] at hb0 hk0 hbx
  have H0 := Lib.hid hb0
  have K0 := Lib.hid hk0
  have BX := Lib.hid hbx
  have E0 := Lib.hid hW0
  clear hb0 hk0 hbx hW0 h
  have HM := Lib.hid hm
  have HX := Lib.hid hx
  have HU := Lib.hid (And.intro hu (And.intro h0 (And.intro h1 hl)))
  have i0 : (i.f0 == 4) = false := by rw [hi]; rfl
  clear hm hx hi hu h0 h1 hl
  go_enter Try.func34, Try.ntmps34
  go_wp2_with fail
  rw [← E0.out]
  refine (mpop H0.out HM.out HX.out).mono ?_
  rintro e' w1 ⟨rfl, hk1, v1, h1⟩
  have H1 := Lib.hid h1
  have K1a := Lib.hid (K0.out.trans hk1)
  have KB1a := Lib.hid hk1
  clear hk1 h1
  go_wp2_with fail
  refine (mpop (l := l) (u := u) H1.out rfl rfl).mono ?_
  rintro e' w1 ⟨rfl, hk1, v1, h1⟩
  have hk1 := KB1a.out.trans hk1
  have H1 := Lib.hid h1
  have K1 := Lib.hid (K0.out.trans hk1)
  obtain ⟨_, _, b2, _⟩ := ins_cells BX.out hk1
  clear hk1 h1
  go_wp2_with fail
  refine (far_yes H1.out u i.f2 HU.out.1 HU.out.2.1 HU.out.2.2.1 (by have := HU.out.2.2.2; omega)).mono ?_
  rintro e' w2 ⟨rfl, h2, hk2⟩
  have H2 := Lib.hid h2
  have K2 := Lib.hid (K1.out.trans hk2)
  clear h2 hk2
  go_wp2_with fail
  go_end0
  exact ⟨rfl, K2.out, v1, H2.out⟩

set_option maxHeartbeats 1000000 in
set_option maxRecDepth 100000 in
theorem astore_near {u y : Int} {l : List Int} (h : Mach w0 W mb ((fb, v) :: ps) wb outv callsv sw SA sc fs m) (hm : m.calls = x :: xs) (hx : x.l = y :: u :: l) (hi : i.f0 = 5) (hu : word u) (h0 : 0 ≤ i.f2) (h1 : i.f2 ≤ 4096) (hl : u < i.f2) (ha : 0 ≤ i.f1) (hw : i.f1 + u < m.words.length) (hwl : m.words.length ≤ 1000000) :
    Calls Try.prog 34 #[.pointer (some ⟨mb, 0, none⟩), .pointer (some ⟨fb, 0, none⟩), insV i] W fun e' w' => isRet e' ∧ Keep W w' ∧ ∃ v1, Mach w0 w' mb ((fb, v1) :: ps) wb outv callsv sw SA sc fs { m with words := m.words.set (i.f1 + u).toNat y, calls := { x with l := l } :: xs } := by
  obtain ⟨hb0, hk0, hbx⟩ := h.box (insO i)
  obtain ⟨W0, hW0⟩ : ∃ W0, W0 = W.alloc (insO i) := ⟨_, rfl⟩
  rw [← hW0] at hb0 hk0 hbx
  have H0 := Lib.hid hb0
  have K0 := Lib.hid hk0
  have BX := Lib.hid hbx
  have E0 := Lib.hid hW0
  clear hb0 hk0 hbx hW0 h
  have HM := Lib.hid hm
  have HX := Lib.hid hx
  have HU := Lib.hid (And.intro hu (And.intro h0 (And.intro h1 hl)))
  have i0 : (i.f0 == 4) = false := by rw [hi]; rfl
  obtain ⟨u0, u1⟩ := hu
  obtain ⟨n, hn⟩ := Int.eq_ofNat_of_zero_le (show 0 ≤ i.f1 + u by omega)
  have hnw : n < m.words.length := by omega
  have HN := Lib.hid hn
  have HNW := Lib.hid hnw
  have wu : IntKind.i64.wrap u = u := IntWalk.i64_in _ (by omega)
  have wn : IntKind.i64.wrap (n : Int) = n := IntWalk.i64_in _ (by omega)
  have n1 : (n : Int) < m.words.length := by omega
  clear hm hx hi h0 h1 hl
  go_enter Try.func34, Try.ntmps34
  go_wp2_with fail
  rw [← E0.out]
  refine (mpop H0.out HM.out HX.out).mono ?_
  rintro e' w1 ⟨rfl, hk1, v1, h1⟩
  have H1 := Lib.hid h1
  have K1a := Lib.hid (K0.out.trans hk1)
  have KB1a := Lib.hid hk1
  clear hk1 h1
  go_wp2_with fail
  refine (mpop (l := l) (u := u) H1.out rfl rfl).mono ?_
  rintro e' w1 ⟨rfl, hk1, v1, h1⟩
  have hk1 := KB1a.out.trans hk1
  have H1 := Lib.hid h1
  have K1 := Lib.hid (K0.out.trans hk1)
  obtain ⟨_, _, b2, _⟩ := ins_cells BX.out hk1
  have KB1 := Lib.hid hk1
  clear hk1 h1
  go_wp2_with fail
  refine (far_no w1 mb u i.f2 HU.out.1 HU.out.2.1 HU.out.2.2.1 HU.out.2.2.2).mono ?_
  rintro e' w2 ⟨rfl, rfl⟩
  clear b2
  go_wp2_with fail
  obtain ⟨W3, hW3⟩ : ∃ W3 : World, W3 = { w1 with drawn := w1.drawn + 1 } := ⟨_, rfl⟩
  have hB3 : Below w1.heap.size w1 W3 := by rw [hW3]; exact below_drew (Below.refl _ _)
  have H3 := Lib.hid (H1.out.later hB3)
  have K3 := Lib.hid (K1.out.trans (Keep.of_below hB3))
  obtain ⟨_, b1, _, _⟩ := ins_cells BX.out (KB1.out.trans (Keep.of_below hB3))
  refine wp_region_still_tail 10 (by kernel_rfl) (by kernel_rfl) ?_
  rw [← hW3]
  obtain ⟨_, _, _, d3, _, _, _, _⟩ := H3.out.mcell
  obtain ⟨c1, f1⟩ := H3.out.wcell n HNW.out
  have HSW := Lib.hid (H3.out.setW n y)
  clear hW3 hB3
  simp only [List.take_succ_cons, List.take_zero, List.drop_succ_cons, List.drop_zero]
  repeat still_step
  refine wpStill_nil ?_
  clear wu wn
  go_wp2_with fail
  go_end0
  have hnn : (i.f1 + u).toNat = n := by rw [HN.out]; rfl
  exact ⟨rfl, K3.out.trans HSW.out.2, v1, by first | (rw [hnn]; exact HSW.out.1) | exact HSW.out.1⟩
end
end Go.Proofs.Ytlngcolnjgloaaa
