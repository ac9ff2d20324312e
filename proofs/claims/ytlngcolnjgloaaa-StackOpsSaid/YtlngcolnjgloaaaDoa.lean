/- The stack machine's far, op, byte and array. Conditions: rows below 2^47 bytes. -/
import Derived.Test.YtlngcolnjgloaaaPur
namespace Go.Proofs.Ytlngcolnjgloaaa
open Go.RowKit Go.Proofs.YtlngcolnjgloaaaW.PrintWords PStackRuns
set_option linter.unusedVariables false
set_option linter.unusedSimpArgs false

section
variable {w0 W : World} {mb wb sc fb : Nat} {ps : List (Nat × Value)} {outv callsv v : Value} {sw : Int} {SA : Option Addr} {fs : List S28} {m : Mc} {x : Fr} {xs : List Fr} {i : S25}

abbrev insV (i : S25) : Value := .agg #[.int .i64 i.f0, .int .i64 i.f1, .int .i64 i.f2, .int .u32 i.f3]
abbrev insO (i : S25) : Obj := .cells #[.int .i64 i.f0, .int .i64 i.f1, .int .i64 i.f2, .int .u32 i.f3] 25

theorem Mach.mcell (h : Mach w0 W mb ps wb outv callsv sw SA sc fs m) : W.cell? ⟨mb, 0, none⟩ = some (.int .i64 sw) ∧ W.cell? ⟨mb, 1, none⟩ = some (.slice SA fs.length sc) ∧ W.cell? ⟨mb, 2, none⟩ = some (.string m.inp) ∧
    W.cell? ⟨mb, 3, none⟩ = some (.slice (some ⟨wb, 0, none⟩) m.words.length m.words.length) ∧ W.cell? ⟨mb, 4, none⟩ = some outv ∧ W.cell? ⟨mb, 5, none⟩ = some callsv ∧ W.cell? ⟨mb, 6, none⟩ = some (.int .i64 m.end_) ∧ ∀ j, W.frozen? ⟨mb, j, none⟩ = false := by
  refine ⟨?_, ?_, ?_, ?_, ?_, ?_, ?_, fun j => blk_frozen h.mblk j⟩ <;> (rw [blk_cell h.mblk]; rfl)

theorem Mach.setEnd (h : Mach w0 W mb ps wb outv callsv sw SA sc fs m) (e : Int) : Mach w0 (W.setCell ⟨mb, 6, none⟩ (.int .i64 e)) mb ps wb outv callsv sw SA sc fs { m with end_ := e } ∧ Keep W (W.setCell ⟨mb, 6, none⟩ (.int .i64 e)) := by
  have hs : ∀ i, i < W.heap.size → i ≠ mb → (W.setCell ⟨mb, 6, none⟩ (.int .i64 e)).heap[i]? = W.heap[i]? := fun i _ hi => Below.heap_setCell _ _ _ _ (by exact hi)
  refine ⟨h.own_ (h.bel.setCell (p := ⟨mb, 6, none⟩) h.gem _) hs m.inp e (by simpa using blk_set h.mblk 6 (.int .i64 e)), ⟨by simp, fun j cs t ht hb => ?_⟩⟩
  rw [hs j (blk_lt hb) (ty_ne hb h.mblk (by rcases ht with rfl | rfl | rfl | rfl <;> decide))]
  exact hb

/-- A variable that is made beside the machine. -/
theorem Mach.box (h : Mach w0 W mb ps wb outv callsv sw SA sc fs m) (o : Obj) : Mach w0 (W.alloc o) mb ps wb outv callsv sw SA sc fs m ∧ Keep W (W.alloc o) ∧ (W.alloc o).heap[W.heap.size]? = some o :=
  ⟨h.later ((Below.refl _ _).alloc (Nat.le_refl _) _), Keep.of_below ((Below.refl _ _).alloc (Nat.le_refl _) _), blk_new W o⟩

theorem ins_cells {W W' : World} {g : Nat} (hb : W.heap[g]? = some (insO i)) (hk : Keep W W') : W'.cell? ⟨g, 0, none⟩ = some (.int .i64 i.f0) ∧ W'.cell? ⟨g, 1, none⟩ = some (.int .i64 i.f1) ∧ W'.cell? ⟨g, 2, none⟩ = some (.int .i64 i.f2) ∧ W'.cell? ⟨g, 3, none⟩ = some (.int .u32 i.f3) :=
  ⟨hk.cell (.inl rfl) hb 0 _ rfl, hk.cell (.inl rfl) hb 1 _ rfl, hk.cell (.inl rfl) hb 2 _ rfl, hk.cell (.inl rfl) hb 3 _ rfl⟩

/-- far: below, or beyond, and the run ends. -/
theorem far_no (W : World) (mb : Nat) (u s : Int) (hu : word u) (h0 : 0 ≤ s) (h1 : s ≤ 4096) (hl : u < s) :
    Calls Try.prog 50 #[.pointer (some ⟨mb, 0, none⟩), .int .u32 u, .int .i64 s] W fun e w' => e = .returned (.bool false) ∧ W = w' := by
  obtain ⟨u0, u1⟩ := hu
  have e1 : IntKind.u64.wrap u = u := by rw [show IntKind.u64.wrap u = u % 18446744073709551616 from rfl]; omega
  have e2 : IntKind.u64.wrap s = s := by rw [show IntKind.u64.wrap s = s % 18446744073709551616 from rfl]; omega
  have d1 : decide (u < s) = true := decide_eq_true hl
  go_enter Try.func50, Try.ntmps50
  go_wp2_with fail
  go_ret
  exact ⟨rfl, rfl⟩
theorem far_yes (h : Mach w0 W mb ps wb outv callsv sw SA sc fs m) (u s : Int) (hu : word u) (h0 : 0 ≤ s) (h1 : s ≤ 4096) (hl : ¬ u < s) :
    Calls Try.prog 50 #[.pointer (some ⟨mb, 0, none⟩), .int .u32 u, .int .i64 s] W fun e w' => e = .returned (.bool true) ∧ Mach w0 w' mb ps wb outv callsv sw SA sc fs { m with end_ := 3 } ∧ Keep W w' := by
  obtain ⟨u0, u1⟩ := hu
  have e1 : IntKind.u64.wrap u = u := by rw [show IntKind.u64.wrap u = u % 18446744073709551616 from rfl]; omega
  have e2 : IntKind.u64.wrap s = s := by rw [show IntKind.u64.wrap s = s % 18446744073709551616 from rfl]; omega
  have d1 : decide (u < s) = false := decide_eq_false hl
  have d2 : s ≤ u := by omega
  obtain ⟨_, _, _, _, _, _, c6, f6⟩ := h.mcell
  have g6 := f6 6
  have HS := Lib.hid (h.setEnd 3)
  clear f6 h hl
  go_enter Try.func50, Try.ntmps50
  go_wp2_with fail
  go_ret
  exact ⟨rfl, HS.out.1, HS.out.2⟩

theorem op_any {a b r e : Int} {l : List Int} (h : Mach w0 W mb ((fb, v) :: ps) wb outv callsv sw SA sc fs m) (hm : m.calls = x :: xs) (hx : x.l = b :: a :: l) (ha : word_Apply.f 1 i.f1 a b = some (r, e)) (hl : x.l.length * 4 ≤ 140737488355328) :
    Calls Try.prog 35 #[.pointer (some ⟨mb, 0, none⟩), .pointer (some ⟨fb, 0, none⟩), insV i] W fun e' w' => isRet e' ∧ Keep W w' ∧ ∃ v1, Mach w0 w' mb ((fb, v1) :: ps) wb outv callsv sw SA sc fs (if e = 0 then { m with calls := { x with l := r :: l } :: xs } else { m with calls := { x with l := l } :: xs, end_ := 2 }) := by
  have hl2 : (l.length + 1) * 4 ≤ 140737488355328 := by rw [hx] at hl; simp at hl; omega
  obtain ⟨hb0, hk0, hbx⟩ := h.box (insO i)
  obtain ⟨W0, hW0⟩ : ∃ W0, W0 = W.alloc (insO i) := ⟨_, rfl⟩
  rw [← hW0] at hb0 hk0 hbx
  have H0 := Lib.hid hb0
  have K0 := Lib.hid hk0
  have BX := Lib.hid hbx
  have E0 := Lib.hid hW0
  clear hb0 hk0 hbx hW0 h
  have HM := Lib.hid hm
  have HX := Lib.hid hx
  have HA := Lib.hid ha
  clear hm hx ha hl
  go_enter Try.func35, Try.ntmps35
  go_wp2_with fail
  rw [← E0.out]
  refine (mpop H0.out HM.out HX.out).mono ?_
  rintro e' w1 ⟨rfl, hk1, v1, h1⟩
  have H1 := Lib.hid h1
  have K1 := Lib.hid (K0.out.trans hk1)
  have KB1 := Lib.hid hk1
  clear hk1 h1
  go_wp2_with fail
  refine (mpop (l := l) (u := a) H1.out rfl rfl).mono ?_
  rintro e' w2 ⟨rfl, hk2, v2, h2⟩
  have H2 := Lib.hid h2
  have K2 := Lib.hid (K1.out.trans hk2)
  obtain ⟨_, c1, _, _⟩ := ins_cells BX.out (KB1.out.trans hk2)
  clear hk2 h2
  go_wp2_with fail
  refine (word_Apply.calls 1 i.f1 a b r e w2 HA.out).mono ?_
  rintro e' w3 ⟨rfl, hd3⟩
  have H3 := Lib.hid (H2.out.later hd3.below)
  have K3 := Lib.hid (K2.out.trans (Keep.of_below hd3.below))
  clear hd3 c1
  by_cases he : e = 0
  · subst he
    go_wp2_with fail
    refine (mpush H3.out rfl r hl2).mono ?_
    rintro e' w4 ⟨he4, hk4, v4, h4⟩
    have hr4 : e' = .returned (.tuple #[]) := he4
    subst hr4
    have H4 := Lib.hid h4
    have K4 := Lib.hid (K3.out.trans hk4)
    clear hk4 h4 he4
    go_wp2_with fail
    go_end0
    exact ⟨rfl, K4.out, v4, by first | exact H4.out | (rw [if_pos rfl]; exact H4.out)⟩
  · have hne : (e != 0) = true := by rw [bne_iff_ne]; exact he
    obtain ⟨_, _, _, _, _, _, c6, f6⟩ := H3.out.mcell
    have g6 := f6 6
    have HS := Lib.hid (H3.out.setEnd 2)
    have HE := Lib.hid he
    clear f6 he
    go_wp2_with fail
    exact bodyPost_ret (results_none rfl _ _ _) rfl ⟨rfl, K3.out.trans HS.out.2, v2, by first | exact HS.out.1 | (rw [if_neg HE.out]; exact HS.out.1)⟩

theorem Mach.put (h : Mach w0 W mb ps wb outv callsv sw SA sc fs m) {W' : World} {outv1 : Value} {out : List Int} (hr : Rowed w0 W W' w0.heap.size mb 4 #[.int .i64 sw, .slice SA fs.length sc, .string m.inp, .slice (some ⟨wb, 0, none⟩) m.words.length m.words.length, outv, callsv, .int .i64 m.end_] 61 5 outv outv1 (nums .u8 out)) :
    Mach w0 W' mb ps wb outv1 callsv sw SA sc fs { m with out := out } ∧ Keep W W' := by
  refine ⟨h.outset hr.bel hr.same out outv1 (by simpa using hr.blk) (by have := hr.own; rw [nums_length] at this; exact this), hr.keep h.mblk h.out (.inl rfl) (.inr (.inr rfl))⟩
theorem info5 : (Try.prog.info? 5).map (fun i => (i.zero, i.size, i.bytes)) = some (some (.int .u8 0), 1, 1) := by kernel_rfl

set_option maxHeartbeats 1000000 in
set_option maxRecDepth 100000 in
theorem put_any {u : Int} {l : List Int} (h : Mach w0 W mb ((fb, v) :: ps) wb outv callsv sw SA sc fs m) (hm : m.calls = x :: xs) (hx : x.l = u :: l) (hi : i.f0 = 13) (hol : m.out.length ≤ 65536) (m' : Mc) (hm' : m' = if (65536 : Int) ≤ m.out.length then { m with calls := { x with l := l } :: xs, end_ := 4 } else { m with calls := { x with l := l } :: xs, out := m.out ++ [u % 256] }) :
    Calls Try.prog 39 #[.pointer (some ⟨mb, 0, none⟩), .pointer (some ⟨fb, 0, none⟩), insV i] W fun e' w' => isRet e' ∧ Keep W w' ∧ ∃ v1 outv1, Mach w0 w' mb ((fb, v1) :: ps) wb outv1 callsv sw SA sc fs m' := by
  have HM' := Lib.hid hm'
  clear hm'
  obtain ⟨oA, oc, rfl⟩ := own_slice h.out
  obtain ⟨hb0, hk0, hbx⟩ := h.box (insO i)
  obtain ⟨W0, hW0⟩ : ∃ W0, W0 = W.alloc (insO i) := ⟨_, rfl⟩
  rw [← hW0] at hb0 hk0 hbx
  have H0 := Lib.hid hb0
  have K0 := Lib.hid hk0
  have BX := Lib.hid hbx
  have E0 := Lib.hid hW0
  clear hb0 hk0 hbx hW0 h
  have HM := Lib.hid hm
  have HX := Lib.hid hx
  have i0 : (i.f0 == 13) = true := by rw [beq_iff_eq]; exact hi
  clear hm hx hi
  go_enter Try.func39, Try.ntmps39
  go_wp2_with fail
  rw [← E0.out]
  refine (mpop H0.out HM.out HX.out).mono ?_
  rintro e' w1 ⟨rfl, hk1, v1, h1⟩
  have H1 := Lib.hid h1
  have K1 := Lib.hid (K0.out.trans hk1)
  clear hk1 h1
  obtain ⟨_, _, _, _, c4, _, c6, f6⟩ := H1.out.mcell
  have g4 := f6 4
  have g6 := f6 6
  clear f6
  by_cases hfull : (65536 : Int) ≤ m.out.length
  · have d1 : decide ((65536 : Int) ≤ m.out.length) = true := decide_eq_true hfull
    have HS := Lib.hid (H1.out.setEnd 4)
    have HF := Lib.hid hfull
    go_wp2_with fail
    exact bodyPost_ret (results_none rfl _ _ _) rfl ⟨rfl, K1.out.trans HS.out.2, v1, _, by rw [HM'.out, if_pos HF.out]; exact HS.out.1⟩
  · have d1 : decide ((65536 : Int) ≤ m.out.length) = false := decide_eq_false hfull
    have d2 : (m.out.length : Int) < 65536 := by omega
    have HF := Lib.hid hfull
    have hbg : w0.heap.size ≤ w1.heap.size := H1.out.bel.size
    clear hfull
    go_wp2_with (at_builtin; refine print_append_num w0.heap.size rfl (.tmp 28) (.tmp 31) 46 5 .u8 1 rfl Try.underlying46 info5 (by decide) (.slice oA m.out.length oc) m.out (u % 256) rfl rfl H1.out.out H1.out.bel hbg (by omega) ?_)
    intro o1 W2 hown1 hB1 hg1 hat
    obtain ⟨g, cap, rfl, _, _⟩ := hown1.form (by simp)
    have hnb : some mb ≠ (Value.slice oA m.out.length oc).ownBlock := own_ne H1.out.out H1.out.mblk (by decide)
    have hb2 := blk_grown H1.out.mblk hg1 hnb
    have c2 : W2.cell? ⟨mb, 4, none⟩ = some (.slice oA m.out.length oc) := by rw [blk_cell hb2]; rfl
    have f2 : W2.frozen? ⟨mb, 4, none⟩ = false := blk_frozen hb2 4
    have HR := Lib.hid (rowed_mk (o := 4) (ys := nums .u8 (m.out ++ [u % 256])) H1.out.mblk H1.out.gem hnb hB1 hg1 (by rw [nums_length, List.length_append]; exact hown1) hat)
    clear hown1 hB1 hg1 hat hb2 c4 c6 g4 g6 d1 d2 hol
    go_wp2_with fail
    have HP := H1.out.put HR.out
    exact bodyPost_ret (results_none rfl _ _ _) rfl ⟨rfl, K1.out.trans (by simpa using HP.2), v1, _, by rw [HM'.out, if_neg (by have := HF.out; omega)]; simpa using HP.1⟩

theorem Mach.setIn (h : Mach w0 W mb ps wb outv callsv sw SA sc fs m) (s : ByteArray) : Mach w0 (W.setCell ⟨mb, 2, none⟩ (.string s)) mb ps wb outv callsv sw SA sc fs { m with inp := s } ∧ Keep W (W.setCell ⟨mb, 2, none⟩ (.string s)) := by
  have hs : ∀ i, i < W.heap.size → i ≠ mb → (W.setCell ⟨mb, 2, none⟩ (.string s)).heap[i]? = W.heap[i]? := fun i _ hi => Below.heap_setCell _ _ _ _ (by exact hi)
  refine ⟨h.own_ (h.bel.setCell (p := ⟨mb, 2, none⟩) h.gem _) hs s m.end_ (by simpa using blk_set h.mblk 2 (.string s)), ⟨by simp, fun j cs t ht hb => ?_⟩⟩
  rw [hs j (blk_lt hb) (ty_ne hb h.mblk (by rcases ht with rfl | rfl | rfl | rfl <;> decide))]
  exact hb

set_option maxHeartbeats 1000000 in
set_option maxRecDepth 100000 in
theorem get_any (h : Mach w0 W mb ((fb, v) :: ps) wb outv callsv sw SA sc fs m) (hm : m.calls = x :: xs) (hi : i.f0 = 12) (hl : (x.l.length + 1) * 4 ≤ 140737488355328) (m' : Mc)
    (hm' : m' = if m.inp.size = 0 then { m with calls := { x with l := 256 :: x.l } :: xs } else { m with inp := m.inp.extract 1 m.inp.size, calls := { x with l := bt m.inp 0 :: x.l } :: xs }) :
    Calls Try.prog 39 #[.pointer (some ⟨mb, 0, none⟩), .pointer (some ⟨fb, 0, none⟩), insV i] W fun e' w' => isRet e' ∧ Keep W w' ∧ ∃ v1, Mach w0 w' mb ((fb, v1) :: ps) wb outv callsv sw SA sc fs m' := by
  obtain ⟨_, _, c2, _, _, _, _, f6⟩ := h.mcell
  have hlt : mb < W.heap.size := blk_lt h.mblk
  have i0 : (i.f0 == 13) = false := by rw [hi]; rfl
  obtain ⟨hb0, hk0, hbx⟩ := h.box (insO i)
  obtain ⟨W0, hW0⟩ : ∃ W0, W0 = W.alloc (insO i) := ⟨_, rfl⟩
  rw [← hW0] at hb0 hk0 hbx
  have H0 := Lib.hid hb0
  have K0 := Lib.hid hk0
  have BX := Lib.hid hbx
  have E0 := Lib.hid hW0
  clear hb0 hk0 hbx hW0 h
  have HM := Lib.hid hm
  have HM' := Lib.hid hm'
  obtain ⟨s, hs⟩ : ∃ s, s = m.inp := ⟨_, rfl⟩
  rw [← hs] at c2
  have HS := Lib.hid hs
  rw [← hs] at hm'
  by_cases h0 : s.size = 0
  · have hS1 : s = ByteArray.empty := ByteArray.size_eq_zero_iff.1 h0
    subst hS1
    have H0S := Lib.hid h0
    clear hm hi hm' hs h0 f6
    go_enter Try.func39, Try.ntmps39
    go_wp2_with fail
    rw [show (W.alloc (.cells #[.int .i64 i.f0, .int .i64 i.f1, .int .i64 i.f2, .int .u32 i.f3] 25)) = W0 from E0.out.symm]
    refine (mpush H0.out HM.out 256 hl).mono ?_
    rintro e' w4 ⟨he4, hk4, v4, h4⟩
    have hr4 : e' = .returned (.tuple #[]) := he4
    subst hr4
    have H4 := Lib.hid h4
    have K4 := Lib.hid (K0.out.trans hk4)
    clear hk4 h4 he4
    go_wp2_with fail
    go_end0
    exact ⟨rfl, K4.out, v4, by rw [HM'.out, if_pos (by rw [← HS.out]; exact H0S.out)]; exact H4.out⟩
  · have hI : s.toList.isEmpty = false := by
      rw [Bool.eq_false_iff]
      intro e
      rw [List.isEmpty_iff] at e
      apply h0
      have h1 : s.data.toList = [] := by rw [ByteArray.toList_eq] at e; exact e
      have h2 := congrArg List.length h1
      rw [data_length] at h2
      exact h2
    have H0S := Lib.hid h0
    clear hm hi hm' hs h0
    go_enter Try.func39, Try.ntmps39
    go_wp2_with fail
    rw [show (W.alloc (.cells #[.int .i64 i.f0, .int .i64 i.f1, .int .i64 i.f2, .int .u32 i.f3] 25)) = W0 from E0.out.symm]
    obtain ⟨W3, hW3⟩ : ∃ W3 : World, W3 = { W0 with drawn := W0.drawn + 1 } := ⟨_, rfl⟩
    have hB3 : Below W0.heap.size W0 W3 := by rw [hW3]; exact below_drew (Below.refl _ _)
    have H3 := Lib.hid (H0.out.later hB3)
    have K3 := Lib.hid (K0.out.trans (Keep.of_below hB3))
    refine wp_region_still_tail 13 (by kernel_rfl) (by kernel_rfl) ?_
    rw [← hW3]
    obtain ⟨_, _, d2, _, _, _, _, f6'⟩ := H3.out.mcell
    rw [← HS.out] at d2
    have g2 := f6' 2
    have p0 : 0 < s.size := by have := H0S.out; omega
    have p1 : (0 : Int) < s.size := by omega
    have p2 : (1 : Int) ≤ s.size := by omega
    clear hW3 c2 f6 hB3 f6' hI
    simp only [List.take_succ_cons, List.take_zero, List.drop_succ_cons, List.drop_zero]
    repeat still_step
    refine wpStill_nil ?_
    have HSI := Lib.hid (H3.out.setIn (s.extract 1 s.size))
    go_wp2_with fail
    rw [show ((s[0]'p0).toNat : Int) % 4294967296 = bt s 0 from by
      have hb := bt_at s 0 (by simpa using p0)
      have hr := bt_range s 0
      have e1 : ((s[0]'p0).toNat : Int) = bt s 0 := by simpa using hb
      omega]
    refine (mpush HSI.out.1 HM.out (bt s 0) hl).mono ?_
    rintro e' w4 ⟨he4, hk4, v4, h4⟩
    have hr4 : e' = .returned (.tuple #[]) := he4
    subst hr4
    have H4 := Lib.hid h4
    have K4 := Lib.hid ((K3.out.trans HSI.out.2).trans hk4)
    clear hk4 h4 he4
    go_wp2_with fail
    go_end0
    exact ⟨rfl, K4.out, v4, by rw [HM'.out, if_neg (by rw [← HS.out]; exact H0S.out), ← HS.out]; exact H4.out⟩
end
end Go.Proofs.Ytlngcolnjgloaaa
