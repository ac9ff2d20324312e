/- The stack machine's back: a call ends. Conditions: rows below 2^47 bytes. -/
import Derived.Test.YtlngcolnjgloaaaDoc
namespace Go.Proofs.Ytlngcolnjgloaaa
open Go.RowKit Go.Proofs.YtlngcolnjgloaaaW.PrintWords PStackRuns
set_option linter.unusedVariables false
set_option linter.unusedSimpArgs false

section
variable {w0 W : World} {mb wb sc fb : Nat} {ps : List (Nat × Value)} {outv callsv v : Value} {sw : Int} {SA : Option Addr} {fs : List S28} {m : Mc} {x : Fr} {xs : List Fr} {i : S25}

/-- The calls' row, and its last. -/
theorem Mach.last {yb : Nat} {vy : Value} {qs : List (Nat × Value)} (h : Mach w0 W mb ((yb, vy) :: qs) wb outv callsv sw SA sc fs m) : ∃ g cap, callsv = .slice (some ⟨g, 0, none⟩) (qs.length + 1) cap ∧ qs.length + 1 ≤ cap ∧ W.cell? ⟨g, qs.length, none⟩ = some (.pointer (some ⟨yb, 0, none⟩)) := by
  obtain ⟨g, cap, e, _, _⟩ := h.calls.form (by simp)
  have hc := h.calls
  rw [e] at hc
  refine ⟨g, cap, by simpa using e, own_cap hc, ?_⟩
  have := h.calls.cells (g := g) (by rw [e]; rfl) qs.length (.pointer (some ⟨yb, 0, none⟩)) (by simp [List.getElem?_append])
  rwa [add_plain] at this

/-- The top frame is taken off. -/
theorem mpopf (h : Mach w0 W mb ((fb, v) :: ps) wb outv callsv sw SA sc fs m) (hm : m.calls = x :: xs) :
    Calls Try.prog 52 #[.pointer (some ⟨mb, 5, none⟩)] W fun e w' => e = .returned (.pointer (some ⟨fb, 0, none⟩)) ∧ Keep W w' ∧ ∃ callsv1, Mach w0 w' mb ps wb outv callsv1 sw SA sc fs { m with calls := xs } ∧ FrameAt w0 w' fb v x ∧ v.ownBlock ≠ some wb ∧ (∀ q ∈ ps, q.1 ≠ fb ∧ (v.ownBlock = none ∨ q.2.ownBlock ≠ v.ownBlock)) := by
  refine (pop_frame (w0 := w0) (base := w0.heap.size) (l := ps.reverse.map fun p => Value.pointer (some ⟨p.1, 0, none⟩)) (x := fb) h.mblk (o := 5) rfl h.gem (by decide) (by simpa using h.calls) h.bel).mono ?_
  rintro e w' ⟨he, v1, hr⟩
  have hS : ∀ i, i < W.heap.size → i ≠ mb → some i ≠ callsv.ownBlock → w'.heap[i]? = W.heap[i]? := hr.same
  have hf := h.frs_stay hS
  rw [hm] at hf
  obtain ⟨h1, h2, h3, h4⟩ := hf
  exact ⟨he, hr.keep h.mblk h.calls (.inl rfl) (.inr (.inl rfl)), v1, h.callset hr.bel hr.size hS v1 _ _ (by simpa using hr.blk) (by simpa using hr.own) h4, h1, h2, h3⟩

/-- A word off the stack of a frame that was taken off. -/
theorem mpopx {u : Int} {l : List Int} (h : Mach w0 W mb ps wb outv callsv sw SA sc fs m) (hf : FrameAt w0 W fb v x) (hx : x.l = u :: l) (hn : v.ownBlock ≠ some wb) (ha : ∀ q ∈ ps, q.1 ≠ fb ∧ (v.ownBlock = none ∨ q.2.ownBlock ≠ v.ownBlock)) :
    Calls Try.prog 33 #[.pointer (some ⟨fb, 6, none⟩)] W fun e w' => e = .returned (.int .u32 u) ∧ Keep W w' ∧ Mach w0 w' mb ps wb outv callsv sw SA sc fs m := by
  obtain ⟨A, c, hc, hC, hb⟩ := hf.blk
  have ho := hf.own
  rw [hx] at ho
  refine (pop_word (w0 := w0) (base := w0.heap.size) (l := l.reverse) (x := u) hb (o := 6) rfl hf.ge (by decide) (by simpa using ho) h.bel).mono ?_
  rintro e w' ⟨he, v1, hr⟩
  exact ⟨he, hr.keep hb hf.own (.inr rfl) (.inl rfl), h.apart hr.bel hr.same hb hf.own hn ha⟩

set_option maxHeartbeats 1000000 in
set_option maxRecDepth 100000 in
theorem back_end (h : Mach w0 W mb ((fb, v) :: ps) wb outv callsv sw SA sc fs m) (hm : m.calls = [x]) :
    Calls Try.prog 38 #[.pointer (some ⟨mb, 0, none⟩), .pointer (some ⟨fb, 0, none⟩)] W fun e w' => isRet e ∧ Keep W w' ∧ ∃ callsv1, Mach w0 w' mb [] wb outv callsv1 sw SA sc fs { m with calls := [], end_ := 1 } := by
  have hps : ps = [] := by
    have := Frs.len h.frs
    rw [hm] at this
    simp at this
    exact this
  subst hps
  have H := Lib.hid h
  have HM := Lib.hid hm
  clear h hm
  go_enter Try.func38, Try.ntmps38
  go_wp2_with fail
  refine (mpopf H.out HM.out).mono ?_
  rintro e' w1 ⟨rfl, hk1, cv, h1, _⟩
  obtain ⟨cA, cc, rfl⟩ := own_slice h1.calls
  have H1 := Lib.hid h1
  have K1 := Lib.hid hk1
  obtain ⟨_, _, _, _, _, c5, c6, f6⟩ := h1.mcell
  have g6 := f6 6
  have HS := Lib.hid (h1.setEnd 1)
  clear hk1 h1 f6
  go_wp2_with fail
  exact bodyPost_ret (results_none rfl _ _ _) rfl ⟨rfl, K1.out.trans HS.out.2, _, by simpa using HS.out.1⟩

set_option maxHeartbeats 1000000 in
set_option maxRecDepth 100000 in
theorem back_no {y : Fr} {ys : List Fr} (h : Mach w0 W mb ((fb, v) :: ps) wb outv callsv sw SA sc fs m) (hm : m.calls = x :: y :: ys) (hw : x.f.f3 = false) :
    Calls Try.prog 38 #[.pointer (some ⟨mb, 0, none⟩), .pointer (some ⟨fb, 0, none⟩)] W fun e w' => isRet e ∧ Keep W w' ∧ ∃ callsv1, Mach w0 w' mb ps wb outv callsv1 sw SA sc fs { m with calls := y :: ys } := by
  have hps : ps.length = ys.length + 1 := by
    have := Frs.len h.frs
    rw [hm] at this
    simp at this
    exact this
  have H := Lib.hid h
  have HM := Lib.hid hm
  have HW := Lib.hid hw
  have HPS := Lib.hid hps
  clear h hm hw hps
  go_enter Try.func38, Try.ntmps38
  go_wp2_with fail
  refine (mpopf H.out HM.out).mono ?_
  rintro e' w1 ⟨rfl, hk1, cv, h1, hf, _⟩
  obtain ⟨cA, cc, rfl⟩ := own_slice h1.calls
  have H1 := Lib.hid h1
  have K1 := Lib.hid hk1
  obtain ⟨_, _, _, _, _, c5, _, _⟩ := h1.mcell
  rw [HPS.out] at c5
  obtain ⟨A, c, _, _, hb⟩ := hf.blk
  have b3 : w1.cell? ⟨fb, 3, none⟩ = some (.bool false) := by rw [blk_cell hb, ← HW.out]; rfl
  clear hk1 h1 hf hb
  go_wp2_with fail
  go_end0
  exact ⟨rfl, K1.out, _, H1.out⟩

set_option maxHeartbeats 2000000 in
set_option maxRecDepth 100000 in
theorem back_yes {y : Fr} {ys : List Fr} {u : Int} {l : List Int} (h : Mach w0 W mb ((fb, v) :: ps) wb outv callsv sw SA sc fs m) (hm : m.calls = x :: y :: ys) (hw : x.f.f3 = true) (hx : x.l = u :: l) (hl : (y.l.length + 1) * 4 ≤ 140737488355328) (hcl : ps.length ≤ 1000000) :
    Calls Try.prog 38 #[.pointer (some ⟨mb, 0, none⟩), .pointer (some ⟨fb, 0, none⟩)] W fun e w' => isRet e ∧ Keep W w' ∧ ∃ ps1 callsv1, ps1.length = ps.length ∧ Mach w0 w' mb ps1 wb outv callsv1 sw SA sc fs { m with calls := { y with l := u :: y.l } :: ys } := by
  obtain ⟨p, qs, rfl⟩ : ∃ p qs, ps = p :: qs := by
    have := Frs.len h.frs
    rw [hm] at this
    cases ps with
    | nil => simp at this
    | cons p qs => exact ⟨p, qs, rfl⟩
  obtain ⟨yb, vy⟩ := p
  obtain ⟨n, hn⟩ : ∃ n, n = qs.length := ⟨_, rfl⟩
  have hnl : n ≤ 1000000 := by rw [hn]; simp at hcl; omega
  have H := Lib.hid h
  have HM := Lib.hid hm
  have HW := Lib.hid hw
  have HX := Lib.hid hx
  have HN := Lib.hid hn
  clear h hm hw hx hn hcl
  go_enter Try.func38, Try.ntmps38
  go_wp2_with fail
  refine (mpopf H.out HM.out).mono ?_
  rintro e' w1 ⟨rfl, hk1, cv, h1, hf, hnw, hap⟩
  obtain ⟨gg, cap, rfl, hcap, hlast⟩ := h1.last
  have H1 := Lib.hid h1
  have K1 := Lib.hid hk1
  have HF1 := Lib.hid hf
  have HNW := Lib.hid hnw
  have HAP := Lib.hid hap
  have HLS := Lib.hid (show ∀ V m', Mach w0 V mb ((yb, vy) :: qs) wb outv (.slice (some ⟨gg, 0, none⟩) (qs.length + 1) cap) sw SA sc fs m' → (V.cell? ⟨mb, 5, none⟩ = some (.slice (some ⟨gg, 0, none⟩) (n + 1) cap) ∧ V.cell? ⟨gg, n, none⟩ = some (.pointer (some ⟨yb, 0, none⟩))) from fun V m' hV => by
    obtain ⟨g2, cap2, e2, _, hl2⟩ := hV.last
    injection e2 with e2 _ _
    injection e2 with e2
    injection e2 with e2
    subst e2
    rw [HN.out]
    exact ⟨hV.mcell.2.2.2.2.2.1, hl2⟩)
  have HLS2 := Lib.hid (show ∀ V m' vz, Mach w0 V mb ((yb, vz) :: qs) wb outv (.slice (some ⟨gg, 0, none⟩) (qs.length + 1) cap) sw SA sc fs m' → (V.cell? ⟨mb, 5, none⟩ = some (.slice (some ⟨gg, 0, none⟩) (n + 1) cap) ∧ V.cell? ⟨gg, n, none⟩ = some (.pointer (some ⟨yb, 0, none⟩))) from fun V m' vz hV => by
    obtain ⟨g2, cap2, e2, _, hl2⟩ := hV.last
    injection e2 with e2 _ _
    injection e2 with e2
    injection e2 with e2
    subst e2
    rw [HN.out]
    exact ⟨hV.mcell.2.2.2.2.2.1, hl2⟩)
  obtain ⟨c5, clast⟩ := HLS.out w1 _ h1
  obtain ⟨A, c, _, _, hb⟩ := hf.blk
  have b3 : w1.cell? ⟨fb, 3, none⟩ = some (.bool true) := by rw [blk_cell hb, ← HW.out]; rfl
  have hcap1 : n + 1 ≤ cap := by rw [HN.out]; exact hcap
  have z0 : (0 : Int) ≤ n := by omega
  have z1 : (n : Int) < n + 1 := by omega
  have wn : IntKind.i64.wrap (n : Int) = n := IntWalk.i64_in _ (by omega)
  clear hk1 h1 hf hb hnw hap hlast hcap
  go_wp2_with fail
  refine wp_region_held_drew (S := fun w' => w'.cell? ⟨mb, 5, none⟩ = some (.slice (some ⟨gg, 0, none⟩) (n + 1) cap) ∧ w'.cell? ⟨gg, n, none⟩ = some (.pointer (some ⟨yb, 0, none⟩))) (by kernel_rfl) (by simp [c5, clast]) (fun hSd => ?_)
  refine wpAnyH_take (i := 0) (v := ?_) rfl (by kernel_rfl) (by kernel_rfl) (by kernel_rfl) (fun _ _ _ h => h) (Or.inl ⟨by rfl, ?_⟩) (by assumption) ?_
  rotate_left
  · (intro w hSw; (try dsimp only at hSw); go_simp; try with_reducible rfl)
  (try simp only [List.getElem_toArray, List.getElem_cons_succ, List.getElem_cons_zero, Act.put, List.setIfInBounds_toArray, List.set_cons_zero, List.set_cons_succ])
  refine wpAnyH_take (i := 1) (v := ?_) rfl (by kernel_rfl) (by kernel_rfl) (by kernel_rfl) (fun _ _ _ h => h) (Or.inl ⟨by rfl, ?_⟩) (by assumption) ?_
  rotate_left
  · (intro w hSw; (try dsimp only at hSw); go_simp; try with_reducible rfl)
  (try simp only [List.getElem_toArray, List.getElem_cons_succ, List.getElem_cons_zero, Act.put, List.setIfInBounds_toArray, List.set_cons_zero, List.set_cons_succ])
  refine wpAnyH_take (i := 2) (v := ?_) rfl (by kernel_rfl) (by kernel_rfl) (by kernel_rfl) (fun _ _ _ h => h) (Or.inl ⟨by rfl, ?_⟩) (by assumption) ?_
  rotate_left
  · (intro w hSw; (try dsimp only at hSw); go_simp; try with_reducible rfl)
  (try simp only [List.getElem_toArray, List.getElem_cons_succ, List.getElem_cons_zero, Act.put, List.setIfInBounds_toArray, List.set_cons_zero, List.set_cons_succ])
  refine wpAnyH_take (i := 3) (v := ?_) rfl (by kernel_rfl) (by kernel_rfl) (by kernel_rfl) (fun _ _ _ h => h) (Or.inl ⟨by rfl, ?_⟩) (by assumption) ?_
  rotate_left
  · (intro w hSw; (try dsimp only at hSw); go_simp; try with_reducible rfl)
  (try simp only [List.getElem_toArray, List.getElem_cons_succ, List.getElem_cons_zero, Act.put, List.setIfInBounds_toArray, List.set_cons_zero, List.set_cons_succ])
  refine wpAnyH_take (i := 4) (v := ?_) rfl (by kernel_rfl) (by kernel_rfl) (by kernel_rfl) (fun _ _ _ h => h) (Or.inl ⟨by rfl, ?_⟩) (by assumption) ?_
  rotate_left
  · (intro w hSw; (try dsimp only at hSw); go_simp; try with_reducible rfl)
  (try simp only [List.getElem_toArray, List.getElem_cons_succ, List.getElem_cons_zero, Act.put, List.setIfInBounds_toArray, List.set_cons_zero, List.set_cons_succ])
  refine wpAnyH_take (i := 5) (v := ?_) rfl (by kernel_rfl) (by kernel_rfl) (by kernel_rfl) (fun _ _ _ h => h) (Or.inl ⟨by rfl, ?_⟩) (by assumption) ?_
  rotate_left
  · (intro w hSw; (try dsimp only at hSw); go_simp; try with_reducible rfl)
  (try simp only [List.getElem_toArray, List.getElem_cons_succ, List.getElem_cons_zero, Act.put, List.setIfInBounds_toArray, List.set_cons_zero, List.set_cons_succ])
  refine wpAnyH_take (i := 6) (v := ?_) rfl (by kernel_rfl) (by kernel_rfl) (by kernel_rfl) (fun _ _ _ h => h) (Or.inl ⟨by rfl, ?_⟩) (by assumption) ?_
  rotate_left
  · (intro w hSw; (try dsimp only at hSw); go_simp; try with_reducible rfl)
  (try simp only [List.getElem_toArray, List.getElem_cons_succ, List.getElem_cons_zero, Act.put, List.setIfInBounds_toArray, List.set_cons_zero, List.set_cons_succ])
  refine wpAnyH_take (i := 7) (v := ?_) rfl (by kernel_rfl) (by kernel_rfl) (by kernel_rfl) (fun _ _ _ h => h) (Or.inl ⟨by rfl, ?_⟩) (by assumption) ?_
  rotate_left
  · (intro w hSw; (try dsimp only at hSw); go_simp; try with_reducible rfl)
  (try simp only [List.getElem_toArray, List.getElem_cons_succ, List.getElem_cons_zero, Act.put, List.setIfInBounds_toArray, List.set_cons_zero, List.set_cons_succ])
  refine wpAnyH_take (i := 8) (v := ?_) rfl (by kernel_rfl) (by kernel_rfl) (by kernel_rfl) (fun _ _ _ h => h) (Or.inl ⟨by rfl, ?_⟩) (by assumption) ?_
  rotate_left
  · (intro w hSw; (try dsimp only at hSw); go_simp; try with_reducible rfl)
  (try simp only [List.getElem_toArray, List.getElem_cons_succ, List.getElem_cons_zero, Act.put, List.setIfInBounds_toArray, List.set_cons_zero, List.set_cons_succ])
  refine wpAnyH_take (i := 9) (v := ?_) rfl (by kernel_rfl) (by kernel_rfl) (by kernel_rfl) (fun _ _ _ h => h) (Or.inl ⟨by rfl, ?_⟩) (by assumption) ?_
  rotate_left
  · (intro w hSw; (try dsimp only at hSw); go_simp; try with_reducible rfl)
  (try simp only [List.getElem_toArray, List.getElem_cons_succ, List.getElem_cons_zero, Act.put, List.setIfInBounds_toArray, List.set_cons_zero, List.set_cons_succ])
  refine wpAnyH_take (i := 10) (v := ?_) rfl (by kernel_rfl) (by kernel_rfl) (by kernel_rfl) (fun _ _ _ h => h) (Or.inl ⟨by rfl, ?_⟩) (by assumption) ?_
  rotate_left
  · (intro w hSw; (try dsimp only at hSw); go_simp; try with_reducible rfl)
  (try simp only [List.getElem_toArray, List.getElem_cons_succ, List.getElem_cons_zero, Act.put, List.setIfInBounds_toArray, List.set_cons_zero, List.set_cons_succ])
  refine wpAnyH_take (i := 11) (v := ?_) rfl (by kernel_rfl) (by kernel_rfl) (by kernel_rfl) (fun _ _ _ h => h) (Or.inl ⟨by rfl, ?_⟩) (by assumption) ?_
  rotate_left
  · (intro w hSw; (try dsimp only at hSw); go_simp; try with_reducible rfl)
  (try simp only [List.getElem_toArray, List.getElem_cons_succ, List.getElem_cons_zero, Act.put, List.setIfInBounds_toArray, List.set_cons_zero, List.set_cons_succ])
  refine wpAnyH_take (i := 12) (v := ?_) rfl (by kernel_rfl) (by kernel_rfl) (by kernel_rfl) (fun _ _ _ h => h) (Or.inl ⟨by rfl, ?_⟩) (by assumption) ?_
  rotate_left
  · (intro w hSw; (try dsimp only at hSw); go_simp; try with_reducible rfl)
  (try simp only [List.getElem_toArray, List.getElem_cons_succ, List.getElem_cons_zero, Act.put, List.setIfInBounds_toArray, List.set_cons_zero, List.set_cons_succ])
  refine wpAnyH_take (i := 13) (v := ?_) rfl (by kernel_rfl) (by kernel_rfl) (by kernel_rfl) (fun _ _ _ h => h) (Or.inl ⟨by rfl, ?_⟩) (by assumption) ?_
  rotate_left
  · (intro w hSw; (try dsimp only at hSw); go_simp; try with_reducible rfl)
  (try simp only [List.getElem_toArray, List.getElem_cons_succ, List.getElem_cons_zero, Act.put, List.setIfInBounds_toArray, List.set_cons_zero, List.set_cons_succ])
  refine wpAnyH_take (i := 14) (v := ?_) rfl (by kernel_rfl) (by kernel_rfl) (by kernel_rfl) (fun _ _ _ h => h) (Or.inl ⟨by rfl, ?_⟩) (by assumption) ?_
  rotate_left
  · (intro w hSw; (try dsimp only at hSw); go_simp; try with_reducible rfl)
  (try simp only [List.getElem_toArray, List.getElem_cons_succ, List.getElem_cons_zero, Act.put, List.setIfInBounds_toArray, List.set_cons_zero, List.set_cons_succ])
  refine wpAnyH_take (i := 15) (v := ?_) rfl (by kernel_rfl) (by kernel_rfl) (by kernel_rfl) (fun _ _ _ h => h) (Or.inl ⟨by rfl, ?_⟩) (by assumption) ?_
  rotate_left
  · (intro w hSw; (try dsimp only at hSw); go_simp; try with_reducible rfl)
  (try simp only [List.getElem_toArray, List.getElem_cons_succ, List.getElem_cons_zero, Act.put, List.setIfInBounds_toArray, List.set_cons_zero, List.set_cons_succ])
  refine wpAnyH_take (i := 16) (v := ?_) rfl (by kernel_rfl) (by kernel_rfl) (by kernel_rfl) (fun _ _ _ h => h) (Or.inl ⟨by rfl, ?_⟩) (by assumption) ?_
  rotate_left
  · (intro w hSw; (try dsimp only at hSw); go_simp; try with_reducible rfl)
  (try simp only [List.getElem_toArray, List.getElem_cons_succ, List.getElem_cons_zero, Act.put, List.setIfInBounds_toArray, List.set_cons_zero, List.set_cons_succ])
  refine wpAnyH_take (i := 17) (v := ?_) rfl (by kernel_rfl) (by kernel_rfl) (by kernel_rfl) (fun _ _ _ h => h) (Or.inl ⟨by rfl, ?_⟩) (by assumption) ?_
  rotate_left
  · (intro w hSw; (try dsimp only at hSw); go_simp; try with_reducible rfl)
  (try simp only [List.getElem_toArray, List.getElem_cons_succ, List.getElem_cons_zero, Act.put, List.setIfInBounds_toArray, List.set_cons_zero, List.set_cons_succ])
  refine wpAnyH_take (i := 18) (v := ?_) rfl (by kernel_rfl) (by kernel_rfl) (by kernel_rfl) (fun _ _ _ h => h) (Or.inl ⟨by rfl, ?_⟩) (by assumption) ?_
  rotate_left
  · (intro w hSw; (try dsimp only at hSw); go_simp; try with_reducible rfl)
  (try simp only [List.getElem_toArray, List.getElem_cons_succ, List.getElem_cons_zero, Act.put, List.setIfInBounds_toArray, List.set_cons_zero, List.set_cons_succ])
  refine wpAnyH_ready (rs := [19]) (by kernel_rfl) (by simp) ?_
  refine AllReadyH.cons rfl (fun K hK => ?_) AllReadyH.nil
  go_simp
  have bD : Below w1.heap.size w1 w1.drew := below_drew (Below.refl _ _)
  have HD1 := Lib.hid (H1.out.later bD)
  have HFD := Lib.hid (HF1.out.move (W' := w1.drew) rfl (fun k _ => rfl))
  have KD := Lib.hid (K1.out.trans (Keep.of_below bD))
  clear bD
  refine (mpopx HD1.out HFD.out HX.out HNW.out HAP.out).mono ?_
  rintro e' w2 ⟨rfl, hk2, h2⟩
  have H2 := Lib.hid h2
  have K2 := Lib.hid (KD.out.trans hk2)
  clear hk2 h2
  go_wp2_with fail
  refine hK.out _ _ (HLS.out w2 _ H2.out) (fun hSe => ?_)
  clear hK K
  (try simp only [List.getElem_toArray, List.getElem_cons_succ, List.getElem_cons_zero, Act.put, List.setIfInBounds_toArray, List.set_cons_zero, List.set_cons_succ])
  refine wpAnyH_ready (rs := [20]) (by kernel_rfl) (by simp) ?_
  refine AllReadyH.cons rfl (fun K hK => ?_) AllReadyH.nil
  go_simp
  refine (mpush H2.out rfl u hl).mono ?_
  rintro e' w3 ⟨he3, hk3, vz, h3⟩
  have hr3 : e' = .returned (.tuple #[]) := he3
  subst hr3
  have H3 := Lib.hid h3
  have K3 := Lib.hid (K2.out.trans hk3)
  clear hk3 h3 he3
  go_wp2_with fail
  refine hK.out _ _ (HLS2.out w3 _ vz H3.out) (fun hSf => ?_)
  clear hK K
  (try simp only [List.getElem_toArray, List.getElem_cons_succ, List.getElem_cons_zero, Act.put, List.setIfInBounds_toArray, List.set_cons_zero, List.set_cons_succ])
  refine wpAnyH_done (by kernel_rfl) ?_ _
  go_wp2_with fail
  go_end0
  exact ⟨rfl, K3.out, (yb, vz) :: qs, _, by simp, H3.out⟩
end
end Go.Proofs.Ytlngcolnjgloaaa
