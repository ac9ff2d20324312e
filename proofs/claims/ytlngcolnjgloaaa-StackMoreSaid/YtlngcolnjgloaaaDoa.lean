/- The stack machine's far, op, byte and array. Conditions: rows below 2^47 bytes. -/
import Derived.Test.YtlngcolnjgloaaaMem
import Derived.Lib.SliceRun
import Derived.Laws.CopyOwn
namespace Go.Proofs.Ytlngcolnjgloaaa
open Go.RowKit Go.Proofs.YtlngcolnjgloaaaW.PrintWords PStackRuns
set_option linter.unusedVariables false
set_option linter.unusedSimpArgs false

section
variable {w0 W : World} {mb wb sc fb : Nat} {ps : List (Nat × Value)} {outv callsv v : Value} {sw : Int} {SA : Option Addr} {fs : List S28} {m : Mc} {x : Fr} {xs : List Fr} {i : S25}

abbrev insV (i : S25) : Value := .agg #[.int .i64 i.f0, .int .i64 i.f1, .int .i64 i.f2, .int .u32 i.f3]
abbrev insO (i : S25) : Obj := .cells #[.int .i64 i.f0, .int .i64 i.f1, .int .i64 i.f2, .int .u32 i.f3] 25

theorem Mach.mcell (h : Mach w0 W mb ps wb outv callsv sw SA sc fs m) : W.cell? ⟨mb, 0, none⟩ = some (.int .i64 sw) ∧ W.cell? ⟨mb, 1, none⟩ = some (.slice SA fs.length sc) ∧ W.cell? ⟨mb, 2, none⟩ = some (.string m.inp) ∧
    W.cell? ⟨mb, 3, none⟩ = some (.slice (some ⟨wb, 0, none⟩) m.words.length m.words.length) ∧ W.cell? ⟨mb, 4, none⟩ = some outv ∧ W.cell? ⟨mb, 5, none⟩ = some callsv ∧ W.cell? ⟨mb, 6, none⟩ = some (.int .i64 m.end_) ∧ ∀ j, W.frozen? ⟨mb, j, none⟩ = false := by
  refine ⟨?_, ?_, ?_, ?_, ?_, ?_, ?_, fun j => blk_frozen h.mblk j⟩ <;> (rw [blk_cell h.mblk]; rfl)

theorem Mach.setEnd (h : Mach w0 W mb ps wb outv callsv sw SA sc fs m) (e : Int) : Mach w0 (W.setCell ⟨mb, 6, none⟩ (.int .i64 e)) mb ps wb outv callsv sw SA sc fs { m with end_ := e } ∧ Keep W (W.setCell ⟨mb, 6, none⟩ (.int .i64 e)) := by
  have hs : ∀ i, i < W.heap.size → i ≠ mb → (W.setCell ⟨mb, 6, none⟩ (.int .i64 e)).heap[i]? = W.heap[i]? := fun i _ hi => Below.heap_setCell _ _ _ _ (by exact hi)
  refine ⟨h.own_ (h.bel.setCell (p := ⟨mb, 6, none⟩) h.gem _) hs m.inp e (by simpa using blk_set h.mblk 6 (.int .i64 e)), ⟨by simp, fun j cs t ht hb => ?_⟩⟩
  rw [hs j (blk_lt hb) (ty_ne hb h.mblk (by rcases ht with rfl | rfl | rfl | rfl <;> decide))]
  exact hb

/-- A variable that is made beside the machine. -/
theorem Mach.box (h : Mach w0 W mb ps wb outv callsv sw SA sc fs m) (o : Obj) : Mach w0 (W.alloc o) mb ps wb outv callsv sw SA sc fs m ∧ Keep W (W.alloc o) ∧ (W.alloc o).heap[W.heap.size]? = some o :=
  ⟨h.later ((Below.refl _ _).alloc (Nat.le_refl _) _), Keep.of_below ((Below.refl _ _).alloc (Nat.le_refl _) _), blk_new W o⟩

theorem ins_cells {W W' : World} {g : Nat} (hb : W.heap[g]? = some (insO i)) (hk : Keep W W') : W'.cell? ⟨g, 0, none⟩ = some (.int .i64 i.f0) ∧ W'.cell? ⟨g, 1, none⟩ = some (.int .i64 i.f1) ∧ W'.cell? ⟨g, 2, none⟩ = some (.int .i64 i.f2) ∧ W'.cell? ⟨g, 3, none⟩ = some (.int .u32 i.f3) :=
  ⟨hk.cell (.inl rfl) hb 0 _ rfl, hk.cell (.inl rfl) hb 1 _ rfl, hk.cell (.inl rfl) hb 2 _ rfl, hk.cell (.inl rfl) hb 3 _ rfl⟩

/-- far: below, or beyond, and the run ends. -/
theorem far_no (W : World) (mb : Nat) (u s : Int) (hu : word u) (h0 : 0 ≤ s) (h1 : s ≤ 4096) (hl : u < s) :
    Calls Try.prog 50 #[.pointer (some ⟨mb, 0, none⟩), .int .u32 u, .int .i64 s] W fun e w' => e = .returned (.bool false) ∧ W = w' := by
  obtain ⟨u0, u1⟩ := hu
  have e1 : IntKind.u64.wrap u = u := by rw [show IntKind.u64.wrap u = u % 18446744073709551616 from rfl]; omega
  have e2 : IntKind.u64.wrap s = s := by rw [show IntKind.u64.wrap s = s % 18446744073709551616 from rfl]; omega
  have d1 : decide (u < s) = true := decide_eq_true hl
  go_enter Try.func50, Try.ntmps50
  go_wp2_with fail
  go_ret
  exact ⟨rfl, rfl⟩
theorem far_yes (h : Mach w0 W mb ps wb outv callsv sw SA sc fs m) (u s : Int) (hu : word u) (h0 : 0 ≤ s) (h1 : s ≤ 4096) (hl : ¬ u < s) :
    Calls Try.prog 50 #[.pointer (some ⟨mb, 0, none⟩), .int .u32 u, .int .i64 s] W fun e w' => e = .returned (.bool true) ∧ Mach w0 w' mb ps wb outv callsv sw SA sc fs { m with end_ := 3 } ∧ Keep W w' := by
  obtain ⟨u0, u1⟩ := hu
  have e1 : IntKind.u64.wrap u = u := by rw [show IntKind.u64.wrap u = u % 18446744073709551616 from rfl]; omega
  have e2 : IntKind.u64.wrap s = s := by rw [show IntKind.u64.wrap s = s % 18446744073709551616 from rfl]; omega
  have d1 : decide (u < s) = false := decide_eq_false hl
  have d2 : s ≤ u := by omega
  obtain ⟨_, _, _, _, _, _, c6, f6⟩ := h.mcell
  have g6 := f6 6
  have HS := Lib.hid (h.setEnd 3)
  clear f6 h hl
  go_enter Try.func50, Try.ntmps50
  go_wp2_with fail
  go_ret
  exact ⟨rfl, HS.out.1, HS.out.2⟩

theorem op_any {a b r e : Int} {l : List Int} (h : Mach w0 W mb ((fb, v) :: ps) wb outv callsv sw SA sc fs m) (hm : m.calls = x :: xs) (hx : x.l = b :: a :: l) (ha : word_Apply.f 1 i.f1 a b = some (r, e)) (hl : x.l.length * 4 ≤ 140737488355328) :
    Calls Try.prog 35 #[.pointer (some ⟨mb, 0, none⟩), .pointer (some ⟨fb, 0, none⟩), insV i] W fun e' w' => isRet e' ∧ Keep W w' ∧ ∃ v1, Mach w0 w' mb ((fb, v1) :: ps) wb outv callsv sw SA sc fs (if e = 0 then { m with calls := { x with l := r :: l } :: xs } else { m with calls := { x with l := l } :: xs, end_ := 2 }) := by
  have hl2 : (l.length + 1) * 4 ≤ 140737488355328 := by rw [hx] at hl; simp at hl; omega
  obtain ⟨hb0, hk0, hbx⟩ := h.box (insO i)
  obtain ⟨W0, hW0⟩ : ∃ W0, W0 = W.alloc (insO i) := ⟨_, rfl⟩
  rw [← hW0] at hb0 hk0 hbx
  have H0 := Lib.hid hb0
  have K0 := Lib.hid hk0
  have BX := Lib.hid hbx
  have E0 := Lib.hid hW0
  clear hb0 hk0 hbx hW0 h
  have HM := Lib.hid hm
  have HX := Lib.hid hx
  have HA := Lib.hid ha
  clear hm hx ha hl
  go_enter Try.func35, Try.ntmps35
  go_wp2_with fail
  rw [← E0.out]
  refine (mpop H0.out HM.out HX.out).mono ?_
  rintro e' w1 ⟨rfl, hk1, v1, h1⟩
  have H1 := Lib.hid h1
  have K1 := Lib.hid (K0.out.trans hk1)
  have KB1 := Lib.hid hk1
  clear hk1 h1
  go_wp2_with fail
  refine (mpop (l := l) (u := a) H1.out rfl rfl).mono ?_
  rintro e' w2 ⟨rfl, hk2, v2, h2⟩
  have H2 := Lib.hid h2
  have K2 := Lib.hid (K1.out.trans hk2)
  obtain ⟨_, c1, _, _⟩ := ins_cells BX.out (KB1.out.trans hk2)
  clear hk2 h2
  go_wp2_with fail
  refine (word_Apply.calls 1 i.f1 a b r e w2 HA.out).mono ?_
  rintro e' w3 ⟨rfl, hd3⟩
  have H3 := Lib.hid (H2.out.later hd3.below)
  have K3 := Lib.hid (K2.out.trans (Keep.of_below hd3.below))
  clear hd3 c1
  by_cases he : e = 0
  · subst he
    go_wp2_with fail
    refine (mpush H3.out rfl r hl2).mono ?_
    rintro e' w4 ⟨he4, hk4, v4, h4⟩
    have hr4 : e' = .returned (.tuple #[]) := he4
    subst hr4
    have H4 := Lib.hid h4
    have K4 := Lib.hid (K3.out.trans hk4)
    clear hk4 h4 he4
    go_wp2_with fail
    go_end0
    exact ⟨rfl, K4.out, v4, by first | exact H4.out | (rw [if_pos rfl]; exact H4.out)⟩
  · have hne : (e != 0) = true := by rw [bne_iff_ne]; exact he
    obtain ⟨_, _, _, _, _, _, c6, f6⟩ := H3.out.mcell
    have g6 := f6 6
    have HS := Lib.hid (H3.out.setEnd 2)
    have HE := Lib.hid he
    clear f6 he
    go_wp2_with fail
    exact bodyPost_ret (results_none rfl _ _ _) rfl ⟨rfl, K3.out.trans HS.out.2, v2, by first | exact HS.out.1 | (rw [if_neg HE.out]; exact HS.out.1)⟩

theorem Mach.put (h : Mach w0 W mb ps wb outv callsv sw SA sc fs m) {W' : World} {outv1 : Value} {out : List Int} (hr : Rowed w0 W W' w0.heap.size mb 4 #[.int .i64 sw, .slice SA fs.length sc, .string m.inp, .slice (some ⟨wb, 0, none⟩) m.words.length m.words.length, outv, callsv, .int .i64 m.end_] 61 5 outv outv1 (nums .u8 out)) :
    Mach w0 W' mb ps wb outv1 callsv sw SA sc fs { m with out := out } ∧ Keep W W' := by
  refine ⟨h.outset hr.bel hr.same out outv1 (by simpa using hr.blk) (by have := hr.own; rw [nums_length] at this; exact this), hr.keep h.mblk h.out (.inl rfl) (.inr (.inr rfl))⟩
theorem info5 : (Try.prog.info? 5).map (fun i => (i.zero, i.size, i.bytes)) = some (some (.int .u8 0), 1, 1) := by kernel_rfl

set_option maxHeartbeats 1000000 in
set_option maxRecDepth 100000 in
theorem put_any {u : Int} {l : List Int} (h : Mach w0 W mb ((fb, v) :: ps) wb outv callsv sw SA sc fs m) (hm : m.calls = x :: xs) (hx : x.l = u :: l) (hi : i.f0 = 13) (hol : m.out.length ≤ 65536) (m' : Mc) (hm' : m' = if (65536 : Int) ≤ m.out.length then { m with calls := { x with l := l } :: xs, end_ := 4 } else { m with calls := { x with l := l } :: xs, out := m.out ++ [u % 256] }) :
    Calls Try.prog 39 #[.pointer (some ⟨mb, 0, none⟩), .pointer (some ⟨fb, 0, none⟩), insV i] W fun e' w' => isRet e' ∧ Keep W w' ∧ ∃ v1 outv1, Mach w0 w' mb ((fb, v1) :: ps) wb outv1 callsv sw SA sc fs m' := by
  have HM' := Lib.hid hm'
  clear hm'
  obtain ⟨oA, oc, rfl⟩ := own_slice h.out
  obtain ⟨hb0, hk0, hbx⟩ := h.box (insO i)
  obtain ⟨W0, hW0⟩ : ∃ W0, W0 = W.alloc (insO i) := ⟨_, rfl⟩
  rw [← hW0] at hb0 hk0 hbx
  have H0 := Lib.hid hb0
  have K0 := Lib.hid hk0
  have BX := Lib.hid hbx
  have E0 := Lib.hid hW0
  clear hb0 hk0 hbx hW0 h
  have HM := Lib.hid hm
  have HX := Lib.hid hx
  have i0 : (i.f0 == 13) = true := by rw [beq_iff_eq]; exact hi
  clear hm hx hi
  go_enter Try.func39, Try.ntmps39
  go_wp2_with fail
  rw [← E0.out]
  refine (mpop H0.out HM.out HX.out).mono ?_
  rintro e' w1 ⟨rfl, hk1, v1, h1⟩
  have H1 := Lib.hid h1
  have K1 := Lib.hid (K0.out.trans hk1)
  clear hk1 h1
  obtain ⟨_, _, _, _, c4, _, c6, f6⟩ := H1.out.mcell
  have g4 := f6 4
  have g6 := f6 6
  clear f6
  by_cases hfull : (65536 : Int) ≤ m.out.length
  · have d1 : decide ((65536 : Int) ≤ m.out.length) = true := decide_eq_true hfull
    have HS := Lib.hid (H1.out.setEnd 4)
    have HF := Lib.hid hfull
    go_wp2_with fail
    exact bodyPost_ret (results_none rfl _ _ _) rfl ⟨rfl, K1.out.trans HS.out.2, v1, _, by rw [HM'.out, if_pos HF.out]; exact HS.out.1⟩
  · have d1 : decide ((65536 : Int) ≤ m.out.length) = false := decide_eq_false hfull
    have d2 : (m.out.length : Int) < 65536 := by omega
    have HF := Lib.hid hfull
    have hbg : w0.heap.size ≤ w1.heap.size := H1.out.bel.size
    clear hfull
    go_wp2_with (at_builtin; refine print_append_num w0.heap.size rfl (.tmp 28) (.tmp 31) 46 5 .u8 1 rfl Try.underlying46 info5 (by decide) (.slice oA m.out.length oc) m.out (u % 256) rfl rfl H1.out.out H1.out.bel hbg (by omega) ?_)
    intro o1 W2 hown1 hB1 hg1 hat
    obtain ⟨g, cap, rfl, _, _⟩ := hown1.form (by simp)
    have hnb : some mb ≠ (Value.slice oA m.out.length oc).ownBlock := own_ne H1.out.out H1.out.mblk (by decide)
    have hb2 := blk_grown H1.out.mblk hg1 hnb
    have c2 : W2.cell? ⟨mb, 4, none⟩ = some (.slice oA m.out.length oc) := by rw [blk_cell hb2]; rfl
    have f2 : W2.frozen? ⟨mb, 4, none⟩ = false := blk_frozen hb2 4
    have HR := Lib.hid (rowed_mk (o := 4) (ys := nums .u8 (m.out ++ [u % 256])) H1.out.mblk H1.out.gem hnb hB1 hg1 (by rw [nums_length, List.length_append]; exact hown1) hat)
    clear hown1 hB1 hg1 hat hb2 c4 c6 g4 g6 d1 d2 hol
    go_wp2_with fail
    have HP := H1.out.put HR.out
    exact bodyPost_ret (results_none rfl _ _ _) rfl ⟨rfl, K1.out.trans (by simpa using HP.2), v1, _, by rw [HM'.out, if_neg (by have := HF.out; omega)]; simpa using HP.1⟩

theorem Mach.setIn (h : Mach w0 W mb ps wb outv callsv sw SA sc fs m) (s : ByteArray) : Mach w0 (W.setCell ⟨mb, 2, none⟩ (.string s)) mb ps wb outv callsv sw SA sc fs { m with inp := s } ∧ Keep W (W.setCell ⟨mb, 2, none⟩ (.string s)) := by
  have hs : ∀ i, i < W.heap.size → i ≠ mb → (W.setCell ⟨mb, 2, none⟩ (.string s)).heap[i]? = W.heap[i]? := fun i _ hi => Below.heap_setCell _ _ _ _ (by exact hi)
  refine ⟨h.own_ (h.bel.setCell (p := ⟨mb, 2, none⟩) h.gem _) hs s m.end_ (by simpa using blk_set h.mblk 2 (.string s)), ⟨by simp, fun j cs t ht hb => ?_⟩⟩
  rw [hs j (blk_lt hb) (ty_ne hb h.mblk (by rcases ht with rfl | rfl | rfl | rfl <;> decide))]
  exact hb

set_option maxHeartbeats 1000000 in
set_option maxRecDepth 100000 in
theorem get_any (h : Mach w0 W mb ((fb, v) :: ps) wb outv callsv sw SA sc fs m) (hm : m.calls = x :: xs) (hi : i.f0 = 12) (hl : (x.l.length + 1) * 4 ≤ 140737488355328) (m' : Mc)
    (hm' : m' = if m.inp.size = 0 then { m with calls := { x with l := 256 :: x.l } :: xs } else { m with inp := m.inp.extract 1 m.inp.size, calls := { x with l := bt m.inp 0 :: x.l } :: xs }) :
    Calls Try.prog 39 #[.pointer (some ⟨mb, 0, none⟩), .pointer (some ⟨fb, 0, none⟩), insV i] W fun e' w' => isRet e' ∧ Keep W w' ∧ ∃ v1, Mach w0 w' mb ((fb, v1) :: ps) wb outv callsv sw SA sc fs m' := by
  obtain ⟨_, _, c2, _, _, _, _, f6⟩ := h.mcell
  have hlt : mb < W.heap.size := blk_lt h.mblk
  have i0 : (i.f0 == 13) = false := by rw [hi]; rfl
  obtain ⟨hb0, hk0, hbx⟩ := h.box (insO i)
  obtain ⟨W0, hW0⟩ : ∃ W0, W0 = W.alloc (insO i) := ⟨_, rfl⟩
  rw [← hW0] at hb0 hk0 hbx
  have H0 := Lib.hid hb0
  have K0 := Lib.hid hk0
  have BX := Lib.hid hbx
  have E0 := Lib.hid hW0
  clear hb0 hk0 hbx hW0 h
  have HM := Lib.hid hm
  have HM' := Lib.hid hm'
  obtain ⟨s, hs⟩ : ∃ s, s = m.inp := ⟨_, rfl⟩
  rw [← hs] at c2
  have HS := Lib.hid hs
  rw [← hs] at hm'
  by_cases h0 : s.size = 0
  · have hS1 : s = ByteArray.empty := ByteArray.size_eq_zero_iff.1 h0
    subst hS1
    have H0S := Lib.hid h0
    clear hm hi hm' hs h0 f6
    go_enter Try.func39, Try.ntmps39
    go_wp2_with fail
    rw [show (W.alloc (.cells #[.int .i64 i.f0, .int .i64 i.f1, .int .i64 i.f2, .int .u32 i.f3] 25)) = W0 from E0.out.symm]
    refine (mpush H0.out HM.out 256 hl).mono ?_
    rintro e' w4 ⟨he4, hk4, v4, h4⟩
    have hr4 : e' = .returned (.tuple #[]) := he4
    subst hr4
    have H4 := Lib.hid h4
    have K4 := Lib.hid (K0.out.trans hk4)
    clear hk4 h4 he4
    go_wp2_with fail
    go_end0
    exact ⟨rfl, K4.out, v4, by rw [HM'.out, if_pos (by rw [← HS.out]; exact H0S.out)]; exact H4.out⟩
  · have hI : s.toList.isEmpty = false := by
      rw [Bool.eq_false_iff]
      intro e
      rw [List.isEmpty_iff] at e
      apply h0
      have h1 : s.data.toList = [] := by rw [ByteArray.toList_eq] at e; exact e
      have h2 := congrArg List.length h1
      rw [data_length] at h2
      exact h2
    have H0S := Lib.hid h0
    clear hm hi hm' hs h0
    go_enter Try.func39, Try.ntmps39
    go_wp2_with fail
    rw [show (W.alloc (.cells #[.int .i64 i.f0, .int .i64 i.f1, .int .i64 i.f2, .int .u32 i.f3] 25)) = W0 from E0.out.symm]
    obtain ⟨W3, hW3⟩ : ∃ W3 : World, W3 = { W0 with drawn := W0.drawn + 1 } := ⟨_, rfl⟩
    have hB3 : Below W0.heap.size W0 W3 := by rw [hW3]; exact below_drew (Below.refl _ _)
    have H3 := Lib.hid (H0.out.later hB3)
    have K3 := Lib.hid (K0.out.trans (Keep.of_below hB3))
    refine wp_region_still_tail 13 (by kernel_rfl) (by kernel_rfl) ?_
    rw [← hW3]
    obtain ⟨_, _, d2, _, _, _, _, f6'⟩ := H3.out.mcell
    rw [← HS.out] at d2
    have g2 := f6' 2
    have p0 : 0 < s.size := by have := H0S.out; omega
    have p1 : (0 : Int) < s.size := by omega
    have p2 : (1 : Int) ≤ s.size := by omega
    clear hW3 c2 f6 hB3 f6' hI
    simp only [List.take_succ_cons, List.take_zero, List.drop_succ_cons, List.drop_zero]
    repeat still_step
    refine wpStill_nil ?_
    have HSI := Lib.hid (H3.out.setIn (s.extract 1 s.size))
    go_wp2_with fail
    rw [show ((s[0]'p0).toNat : Int) % 4294967296 = bt s 0 from by
      have hb := bt_at s 0 (by simpa using p0)
      have hr := bt_range s 0
      have e1 : ((s[0]'p0).toNat : Int) = bt s 0 := by simpa using hb
      omega]
    refine (mpush HSI.out.1 HM.out (bt s 0) hl).mono ?_
    rintro e' w4 ⟨he4, hk4, v4, h4⟩
    have hr4 : e' = .returned (.tuple #[]) := he4
    subst hr4
    have H4 := Lib.hid h4
    have K4 := Lib.hid ((K3.out.trans HSI.out.2).trans hk4)
    clear hk4 h4 he4
    go_wp2_with fail
    go_end0
    exact ⟨rfl, K4.out, v4, by rw [HM'.out, if_neg (by rw [← HS.out]; exact H0S.out), ← HS.out]; exact H4.out⟩
end
end Go.Proofs.Ytlngcolnjgloaaa

/- The stack machine's array. Conditions: rows below 2^47 bytes. -/
namespace Go.Proofs.Ytlngcolnjgloaaa
open Go.RowKit Go.Proofs.YtlngcolnjgloaaaW.PrintWords PStackRuns
set_option linter.unusedVariables false
set_option linter.unusedSimpArgs false

section
variable {w0 W : World} {mb wb sc fb : Nat} {ps : List (Nat × Value)} {outv callsv v : Value} {sw : Int} {SA : Option Addr} {fs : List S28} {m : Mc} {x : Fr} {xs : List Fr} {i : S25}

theorem Mach.wcell (h : Mach w0 W mb ps wb outv callsv sw SA sc fs m) (n : Nat) (hn : n < m.words.length) : W.cell? ⟨wb, n, none⟩ = some (.int .u32 (rd m.words n)) ∧ W.frozen? ⟨wb, n, none⟩ = false := by
  refine ⟨?_, blk_frozen h.wblk n⟩
  rw [blk_cell h.wblk]
  simp [nums, rd, List.getElem?_eq_getElem hn]

theorem Mach.setW (h : Mach w0 W mb ps wb outv callsv sw SA sc fs m) (n : Nat) (u : Int) : Mach w0 (W.setCell ⟨wb, n, none⟩ (.int .u32 u)) mb ps wb outv callsv sw SA sc fs { m with words := m.words.set n u } ∧ Keep W (W.setCell ⟨wb, n, none⟩ (.int .u32 u)) := by
  have hs : ∀ i, i < W.heap.size → i ≠ wb → (W.setCell ⟨wb, n, none⟩ (.int .u32 u)).heap[i]? = W.heap[i]? := fun i _ hi => Below.heap_setCell _ _ _ _ (by exact hi)
  refine ⟨h.wset (h.bel.setCell (p := ⟨wb, n, none⟩) h.gew _) hs _ (by simp) ?_, ⟨by simp, fun j cs t ht hb => ?_⟩⟩
  · have := blk_set h.wblk n (.int .u32 u)
    simpa [nums, List.map_set] using this
  · rw [hs j (blk_lt hb) (ty_ne hb h.wblk (by rcases ht with rfl | rfl | rfl | rfl <;> decide))]
    exact hb


set_option maxHeartbeats 1000000 in
set_option maxRecDepth 100000 in
theorem aload_far {u : Int} {l : List Int} (h : Mach w0 W mb ((fb, v) :: ps) wb outv callsv sw SA sc fs m) (hm : m.calls = x :: xs) (hx : x.l = u :: l) (hi : i.f0 = 4) (hu : word u) (h0 : 0 ≤ i.f2) (h1 : i.f2 ≤ 4096) (hl : ¬ u < i.f2) :
    Calls Try.prog 34 #[.pointer (some ⟨mb, 0, none⟩), .pointer (some ⟨fb, 0, none⟩), insV i] W fun e' w' => isRet e' ∧ Keep W w' ∧ ∃ v1, Mach w0 w' mb ((fb, v1) :: ps) wb outv callsv sw SA sc fs { m with calls := { x with l := l } :: xs, end_ := 3 } := by
  obtain ⟨hb0, hk0, hbx⟩ := h.box (insO i)
  obtain ⟨W0, hW0⟩ : ∃ W0, W0 = W.alloc (insO i) := ⟨_, rfl⟩
  rw [← hW0] at hb0 hk0 hbx
  have H0 := Lib.hid hb0
  have K0 := Lib.hid hk0
  have BX := Lib.hid hbx
  have E0 := Lib.hid hW0
  clear hb0 hk0 hbx hW0 h
  have HM := Lib.hid hm
  have HX := Lib.hid hx
  have HU := Lib.hid (And.intro hu (And.intro h0 (And.intro h1 hl)))
  have i0 : (i.f0 == 4) = true := by rw [beq_iff_eq]; exact hi
  clear hm hx hi hu h0 h1 hl
  go_enter Try.func34, Try.ntmps34
  go_wp2_with fail
  rw [← E0.out]
  refine (mpop H0.out HM.out HX.out).mono ?_
  rintro e' w1 ⟨rfl, hk1, v1, h1⟩
  have H1 := Lib.hid h1
  have K1 := Lib.hid (K0.out.trans hk1)
  obtain ⟨_, _, b2, _⟩ := ins_cells BX.out hk1
  clear hk1 h1
  go_wp2_with fail
  refine (far_yes H1.out u i.f2 HU.out.1 HU.out.2.1 HU.out.2.2.1 (by have := HU.out.2.2.2; omega)).mono ?_
  rintro e' w2 ⟨rfl, h2, hk2⟩
  have H2 := Lib.hid h2
  have K2 := Lib.hid (K1.out.trans hk2)
  clear h2 hk2
  go_wp2_with fail
  exact bodyPost_ret (results_none rfl _ _ _) rfl ⟨rfl, K2.out, v1, H2.out⟩

set_option maxHeartbeats 1000000 in
set_option maxRecDepth 100000 in
theorem aload_near {u : Int} {l : List Int} (h : Mach w0 W mb ((fb, v) :: ps) wb outv callsv sw SA sc fs m) (hm : m.calls = x :: xs) (hx : x.l = u :: l) (hi : i.f0 = 4) (hu : word u) (h0 : 0 ≤ i.f2) (h1 : i.f2 ≤ 4096) (hl : u < i.f2) (ha : 0 ≤ i.f1) (hw : i.f1 + u < m.words.length) (hll : x.l.length * 4 ≤ 140737488355328) (hwl : m.words.length ≤ 1000000) :
    Calls Try.prog 34 #[.pointer (some ⟨mb, 0, none⟩), .pointer (some ⟨fb, 0, none⟩), insV i] W fun e' w' => isRet e' ∧ Keep W w' ∧ ∃ v1, Mach w0 w' mb ((fb, v1) :: ps) wb outv callsv sw SA sc fs { m with calls := { x with l := rd m.words (i.f1 + u) :: l } :: xs } := by
  have hl2 : (l.length + 1) * 4 ≤ 140737488355328 := by rw [hx] at hll; simp at hll; omega
  obtain ⟨hb0, hk0, hbx⟩ := h.box (insO i)
  obtain ⟨W0, hW0⟩ : ∃ W0, W0 = W.alloc (insO i) := ⟨_, rfl⟩
  rw [← hW0] at hb0 hk0 hbx
  have H0 := Lib.hid hb0
  have K0 := Lib.hid hk0
  have BX := Lib.hid hbx
  have E0 := Lib.hid hW0
  clear hb0 hk0 hbx hW0 h
  have HM := Lib.hid hm
  have HX := Lib.hid hx
  have HU := Lib.hid (And.intro hu (And.intro h0 (And.intro h1 hl)))
  have i0 : (i.f0 == 4) = true := by rw [beq_iff_eq]; exact hi
  obtain ⟨u0, u1⟩ := hu
  obtain ⟨n, hn⟩ := Int.eq_ofNat_of_zero_le (show 0 ≤ i.f1 + u by omega)
  have hnw : n < m.words.length := by omega
  have HN := Lib.hid hn
  have HNW := Lib.hid hnw
  have wu : IntKind.i64.wrap u = u := IntWalk.i64_in _ (by omega)
  have wn : IntKind.i64.wrap (n : Int) = n := IntWalk.i64_in _ (by omega)
  have n1 : (n : Int) < m.words.length := by omega
  clear hm hx hi h0 h1 hl hll
  go_enter Try.func34, Try.ntmps34
  go_wp2_with fail
  rw [← E0.out]
  refine (mpop H0.out HM.out HX.out).mono ?_
  rintro e' w1 ⟨rfl, hk1, v1, h1⟩
  have H1 := Lib.hid h1
  have K1 := Lib.hid (K0.out.trans hk1)
  obtain ⟨_, _, b2, _⟩ := ins_cells BX.out hk1
  have KB1 := Lib.hid hk1
  clear hk1 h1
  go_wp2_with fail
  refine (far_no w1 mb u i.f2 HU.out.1 HU.out.2.1 HU.out.2.2.1 HU.out.2.2.2).mono ?_
  rintro e' w2 ⟨rfl, rfl⟩
  clear b2
  go_wp2_with fail
  obtain ⟨W3, hW3⟩ : ∃ W3 : World, W3 = { w1 with drawn := w1.drawn + 1 } := ⟨_, rfl⟩
  have hB3 : Below w1.heap.size w1 W3 := by rw [hW3]; exact below_drew (Below.refl _ _)
  have H3 := Lib.hid (H1.out.later hB3)
  have K3 := Lib.hid (K1.out.trans (Keep.of_below hB3))
  obtain ⟨_, b1, _, _⟩ := ins_cells BX.out (KB1.out.trans (Keep.of_below hB3))
  refine wp_region_still_tail 14 (by kernel_rfl) (by kernel_rfl) ?_
  rw [← hW3]
  obtain ⟨_, _, _, d3, _, _, _, _⟩ := H3.out.mcell
  obtain ⟨c1, _⟩ := H3.out.wcell n HNW.out
  clear hW3 hB3
  simp only [List.take_succ_cons, List.take_zero, List.drop_succ_cons, List.drop_zero]
  repeat still_step
  refine wpStill_nil ?_
  clear wu wn
  go_wp2_with fail
  refine (mpush H3.out rfl (rd m.words n) hl2).mono ?_
  rintro e' w4 ⟨he4, hk4, v4, h4⟩
  have hr4 : e' = .returned (.tuple #[]) := he4
  subst hr4
  have H4 := Lib.hid h4
  have K4 := Lib.hid (K3.out.trans hk4)
  clear hk4 h4 he4
  go_wp2_with fail
  exact bodyPost_ret (results_none rfl _ _ _) rfl ⟨rfl, K4.out, v4, by first | exact H4.out | (rw [HN.out]; exact H4.out)⟩
set_option maxHeartbeats 1000000 in
set_option maxRecDepth 100000 in
theorem astore_far {u y : Int} {l : List Int} (h : Mach w0 W mb ((fb, v) :: ps) wb outv callsv sw SA sc fs m) (hm : m.calls = x :: xs) (hx : x.l = y :: u :: l) (hi : i.f0 = 5) (hu : word u) (h0 : 0 ≤ i.f2) (h1 : i.f2 ≤ 4096) (hl : ¬ u < i.f2) :
    Calls Try.prog 34 #[.pointer (some ⟨mb, 0, none⟩), .pointer (some ⟨fb, 0, none⟩), insV i] W fun e' w' => isRet e' ∧ Keep W w' ∧ ∃ v1, Mach w0 w' mb ((fb, v1) :: ps) wb outv callsv sw SA sc fs { m with calls := { x with l := l } :: xs, end_ := 3 } := by
  obtain ⟨hb0, hk0, hbx⟩ := h.box (insO i)
  obtain ⟨W0, hW0⟩ : ∃ W0, W0 = W.alloc (insO i) := ⟨_, rfl⟩
  rw [← hW0] at hb0 hk0 hbx
  have H0 := Lib.hid hb0
  have K0 := Lib.hid hk0
  have BX := Lib.hid hbx
  have E0 := Lib.hid hW0
  clear hb0 hk0 hbx hW0 h
  have HM := Lib.hid hm
  have HX := Lib.hid hx
  have HU := Lib.hid (And.intro hu (And.intro h0 (And.intro h1 hl)))
  have i0 : (i.f0 == 4) = false := by rw [hi]; rfl
  clear hm hx hi hu h0 h1 hl
  go_enter Try.func34, Try.ntmps34
  go_wp2_with fail
  rw [← E0.out]
  refine (mpop H0.out HM.out HX.out).mono ?_
  rintro e' w1 ⟨rfl, hk1, v1, h1⟩
  have H1 := Lib.hid h1
  have K1a := Lib.hid (K0.out.trans hk1)
  have KB1a := Lib.hid hk1
  clear hk1 h1
  go_wp2_with fail
  refine (mpop (l := l) (u := u) H1.out rfl rfl).mono ?_
  rintro e' w1 ⟨rfl, hk1, v1, h1⟩
  have hk1 := KB1a.out.trans hk1
  have H1 := Lib.hid h1
  have K1 := Lib.hid (K0.out.trans hk1)
  obtain ⟨_, _, b2, _⟩ := ins_cells BX.out hk1
  clear hk1 h1
  go_wp2_with fail
  refine (far_yes H1.out u i.f2 HU.out.1 HU.out.2.1 HU.out.2.2.1 (by have := HU.out.2.2.2; omega)).mono ?_
  rintro e' w2 ⟨rfl, h2, hk2⟩
  have H2 := Lib.hid h2
  have K2 := Lib.hid (K1.out.trans hk2)
  clear h2 hk2
  go_wp2_with fail
  go_end0
  exact ⟨rfl, K2.out, v1, H2.out⟩

set_option maxHeartbeats 1000000 in
set_option maxRecDepth 100000 in
theorem astore_near {u y : Int} {l : List Int} (h : Mach w0 W mb ((fb, v) :: ps) wb outv callsv sw SA sc fs m) (hm : m.calls = x :: xs) (hx : x.l = y :: u :: l) (hi : i.f0 = 5) (hu : word u) (h0 : 0 ≤ i.f2) (h1 : i.f2 ≤ 4096) (hl : u < i.f2) (ha : 0 ≤ i.f1) (hw : i.f1 + u < m.words.length) (hwl : m.words.length ≤ 1000000) :
    Calls Try.prog 34 #[.pointer (some ⟨mb, 0, none⟩), .pointer (some ⟨fb, 0, none⟩), insV i] W fun e' w' => isRet e' ∧ Keep W w' ∧ ∃ v1, Mach w0 w' mb ((fb, v1) :: ps) wb outv callsv sw SA sc fs { m with words := m.words.set (i.f1 + u).toNat y, calls := { x with l := l } :: xs } := by
  obtain ⟨hb0, hk0, hbx⟩ := h.box (insO i)
  obtain ⟨W0, hW0⟩ : ∃ W0, W0 = W.alloc (insO i) := ⟨_, rfl⟩
  rw [← hW0] at hb0 hk0 hbx
  have H0 := Lib.hid hb0
  have K0 := Lib.hid hk0
  have BX := Lib.hid hbx
  have E0 := Lib.hid hW0
  clear hb0 hk0 hbx hW0 h
  have HM := Lib.hid hm
  have HX := Lib.hid hx
  have HU := Lib.hid (And.intro hu (And.intro h0 (And.intro h1 hl)))
  have i0 : (i.f0 == 4) = false := by rw [hi]; rfl
  obtain ⟨u0, u1⟩ := hu
  obtain ⟨n, hn⟩ := Int.eq_ofNat_of_zero_le (show 0 ≤ i.f1 + u by omega)
  have hnw : n < m.words.length := by omega
  have HN := Lib.hid hn
  have HNW := Lib.hid hnw
  have wu : IntKind.i64.wrap u = u := IntWalk.i64_in _ (by omega)
  have wn : IntKind.i64.wrap (n : Int) = n := IntWalk.i64_in _ (by omega)
  have n1 : (n : Int) < m.words.length := by omega
  clear hm hx hi h0 h1 hl
  go_enter Try.func34, Try.ntmps34
  go_wp2_with fail
  rw [← E0.out]
  refine (mpop H0.out HM.out HX.out).mono ?_
  rintro e' w1 ⟨rfl, hk1, v1, h1⟩
  have H1 := Lib.hid h1
  have K1a := Lib.hid (K0.out.trans hk1)
  have KB1a := Lib.hid hk1
  clear hk1 h1
  go_wp2_with fail
  refine (mpop (l := l) (u := u) H1.out rfl rfl).mono ?_
  rintro e' w1 ⟨rfl, hk1, v1, h1⟩
  have hk1 := KB1a.out.trans hk1
  have H1 := Lib.hid h1
  have K1 := Lib.hid (K0.out.trans hk1)
  obtain ⟨_, _, b2, _⟩ := ins_cells BX.out hk1
  have KB1 := Lib.hid hk1
  clear hk1 h1
  go_wp2_with fail
  refine (far_no w1 mb u i.f2 HU.out.1 HU.out.2.1 HU.out.2.2.1 HU.out.2.2.2).mono ?_
  rintro e' w2 ⟨rfl, rfl⟩
  clear b2
  go_wp2_with fail
  obtain ⟨W3, hW3⟩ : ∃ W3 : World, W3 = { w1 with drawn := w1.drawn + 1 } := ⟨_, rfl⟩
  have hB3 : Below w1.heap.size w1 W3 := by rw [hW3]; exact below_drew (Below.refl _ _)
  have H3 := Lib.hid (H1.out.later hB3)
  have K3 := Lib.hid (K1.out.trans (Keep.of_below hB3))
  obtain ⟨_, b1, _, _⟩ := ins_cells BX.out (KB1.out.trans (Keep.of_below hB3))
  refine wp_region_still_tail 10 (by kernel_rfl) (by kernel_rfl) ?_
  rw [← hW3]
  obtain ⟨_, _, _, d3, _, _, _, _⟩ := H3.out.mcell
  obtain ⟨c1, f1⟩ := H3.out.wcell n HNW.out
  have HSW := Lib.hid (H3.out.setW n y)
  clear hW3 hB3
  simp only [List.take_succ_cons, List.take_zero, List.drop_succ_cons, List.drop_zero]
  repeat still_step
  refine wpStill_nil ?_
  clear wu wn
  go_wp2_with fail
  go_end0
  have hnn : (i.f1 + u).toNat = n := by rw [HN.out]; rfl
  exact ⟨rfl, K3.out.trans HSW.out.2, v1, by first | (rw [hnn]; exact HSW.out.1) | exact HSW.out.1⟩
end
end Go.Proofs.Ytlngcolnjgloaaa

/- The stack machine's call and back. Conditions: rows below 2^47 bytes. -/
namespace Go.Proofs.Ytlngcolnjgloaaa
open Go.RowKit Go.Proofs.YtlngcolnjgloaaaW.PrintWords PStackRuns
set_option linter.unusedVariables false
set_option linter.unusedSimpArgs false

theorem setCells_heap (b : Nat) : ∀ (vs : List Value) (o : Nat) (w : World), (∀ i, i ≠ b → (w.setCells b o vs).heap[i]? = w.heap[i]?) ∧ (w.setCells b o vs).heap.size = w.heap.size ∧
    (∀ (cs : List Value) (t : TypeId), w.heap[b]? = some (.cells cs.toArray t (0, 0)) → o + vs.length ≤ cs.length → (w.setCells b o vs).heap[b]? = some (.cells (splice cs o vs).toArray t (0, 0))) ∧
    (w.setCells b o vs).os = w.os ∧ (w.setCells b o vs).tape = w.tape ∧ (w.setCells b o vs).output = w.output
  | [], o, w => by
    refine ⟨fun i _ => rfl, rfl, fun cs t h hl => ?_, rfl, rfl, rfl⟩
    simp only [splice, World.setCells, List.nil_append, List.length_nil, Nat.add_zero, List.take_append_drop]
    exact h
  | v :: vs, o, w => by
    obtain ⟨h1, h2, h3, h4, h5, h6⟩ := setCells_heap b vs (o + 1) (w.setCell ⟨b, o, none⟩ v)
    refine ⟨fun i hi => ?_, ?_, fun cs t h hl => ?_, ?_, ?_, ?_⟩
    · exact (h1 i hi).trans (Below.heap_setCell w _ v i (by exact hi))
    · exact h2.trans (by simp)
    · simp only [List.length_cons] at hl
      have hs := blk_set h o v
      rw [List.setIfInBounds_toArray] at hs
      have := h3 (cs.set o v) t hs (by simp; omega)
      show (World.setCells (w.setCell ⟨b, o, none⟩ v) b (o + 1) vs).heap[b]? = _
      rw [this]
      congr 3
      unfold splice
      have hlen : (cs.take o).length = o := by rw [List.length_take]; omega
      have e0 : cs.set o v = cs.take o ++ v :: cs.drop (o + 1) := by rw [List.set_eq_take_append_cons_drop, if_pos (by omega)]
      have e1 : (cs.set o v).take (o + 1) = cs.take o ++ [v] := by
        rw [e0, List.take_append, hlen, List.take_of_length_le (by omega), show o + 1 - o = 1 by omega]
        simp
      have e2 : (cs.set o v).drop (o + 1 + vs.length) = cs.drop (o + (vs.length + 1)) := by
        rw [e0, List.drop_append, hlen, List.drop_of_length_le (by omega), show o + 1 + vs.length - o = vs.length + 1 by omega, List.drop_succ_cons, List.drop_drop, List.nil_append]
        congr 1
        omega
      rw [e1, e2]
      simp
    · exact h4
    · exact h5
    · exact h6

section
variable {w0 W : World} {mb wb sc fb : Nat} {ps : List (Nat × Value)} {outv callsv v : Value} {sw : Int} {SA : Option Addr} {fs : List S28} {m : Mc} {x : Fr} {xs : List Fr} {i : S25}

end

/-- The slice of words that a call has. -/
theorem words_cut (wb n first slots : Nat) (h : first + slots ≤ n) : ∃ AA : Option Addr, (∀ W : World, (Instr.slice 40 (.slice (some ⟨wb, 0, none⟩) n n) (some (.int .i64 (first : Int))) (some (.int .i64 ((first : Int) + slots))) none).run Try.prog W = .ok (.slice AA slots (n - first)) W) ∧
    (0 < slots → AA = some ⟨wb, first, none⟩) ∧ ∃ o, AA = some ⟨wb, o, none⟩ := by
  obtain ⟨i0, hi0, _⟩ := Option.map_eq_some_iff.1 info22
  have hsz : i0.size = 1 := by
    have h := info22
    rw [hi0] at h
    simp at h
    exact h.2.1
  refine ⟨if n = first then some ⟨wb, 0, none⟩ else some ⟨wb, first, none⟩, fun W => ?_, fun hs => by rw [if_neg (by omega)], by split <;> exact ⟨_, rfl⟩⟩
  have he : Try.prog.elem 40 = 22 := by simp [Program.elem, Try.underlying40]
  have hu : Try.prog.underlying 40 = some (.slice (Try.prog.elem 40)) := by rw [he]; exact Try.underlying40
  rw [run_slice_lh W 40 (some ⟨wb, 0, none⟩) n n hu .i64 .i64 (first : Int) ((first : Int) + slots) (by omega) (by omega) (by omega), he]
  have e1 : ((first : Int) + slots).toNat = first + slots := by omega
  have e2 : first + slots - first = slots := by omega
  simp [sizeOf, typeInfo, hi0, hsz, sliced, Result.andThen, e1, e2, add_plain]

theorem run_clear_words (W : World) (AA : Option Addr) (wb first slots cc : Nat) (hAA : 0 < slots → AA = some ⟨wb, first, none⟩) {cs : List Value} (hb : W.heap[wb]? = some (.cells cs.toArray 22 (0, 0))) (hl : first + slots ≤ cs.length) (ty : TypeId) (hsome : ∃ o, AA = some ⟨wb, o, none⟩) :
    (Builtin.clear_ #[40] ty #[.slice AA slots cc]).run Try.prog W = .ok (.tuple #[]) (W.setCells wb first (List.replicate slots (.int .u32 0))) := by
  rcases Nat.eq_zero_or_pos slots with h0 | h0
  · subst h0
    obtain ⟨o, rfl⟩ := hsome
    have hz : ∀ w, (zeroValue 22).run Try.prog w = .ok (.int .u32 0) w := fun w => by kernel_rfl
    simp [Builtin.clear_, run_underlying Try.underlying40, hz, World.setCells, Builtin.zeroCells, storeCells]
  · obtain rfl := hAA h0
    refine Lib.run_clear_slice W 40 22 ty (.int .u32 0) Try.underlying40 (fun w => by kernel_rfl) rfl rfl wb first slots cc h0 ?_ (fun j hj => blk_frozen hb _)
    intro j hj
    rw [blk_cell hb]
    simp [List.getElem?_eq_getElem (show first + j < cs.length by omega)]

theorem nums_one (k : IntKind) (xs : List Int) : ∀ u ∈ nums k xs, u.oneCell' = true := by
  intro u hu
  simp only [nums, List.mem_map] at hu
  obtain ⟨a, _, rfl⟩ := hu
  rfl
theorem nums_splice (k : IntKind) (L : List Int) (o : Nat) (cs : List Int) : splice (nums k L) o (nums k cs) = nums k (splice L o cs) := by simp [splice, nums]

theorem copy_words (w : World) (AA A : Option Addr) (wb off dLen dCap sLen sCap : Nat) (ws cs : List Int) (hb : w.heap[wb]? = some (.cells (nums .u32 ws).toArray 22 (0, 0))) (hn : cs.length = Nat.min sLen dLen) (hAA : 0 < dLen → AA = some ⟨wb, off, none⟩) (hfit : off + cs.length ≤ ws.length)
    (hsrc : 0 < sLen → ∃ ad, A = some ad ∧ ∀ j, j < cs.length → w.cell? (ad.add j) = some (.int .u32 (cs.getD j 0))) :
    ∃ w', (∀ ty, (Builtin.copy_ #[40, 40] ty #[.slice AA dLen dCap, .slice A sLen sCap]).run Try.prog w = .ok (.int .i64 cs.length) w') ∧ (∀ i, i ≠ wb → w'.heap[i]? = w.heap[i]?) ∧ w'.heap.size = w.heap.size ∧
      w'.heap[wb]? = some (.cells (nums .u32 (splice ws off cs)).toArray 22 (0, 0)) ∧ w'.os = w.os ∧ w'.tape = w.tape ∧ w'.output = w.output := by
  rcases Nat.eq_zero_or_pos cs.length with h0 | h0
  · obtain rfl : cs = [] := List.eq_nil_of_length_eq_zero h0
    refine ⟨w, fun ty => run_copy_none w 40 40 ty 22 AA A dLen dCap sLen sCap Try.underlying40 (by kernel_rfl) (by simpa using hn.symm), fun _ _ => rfl, rfl, by simpa [splice] using hb, rfl, rfl, rfl⟩
  · have hmin : Nat.min sLen dLen ≤ sLen ∧ Nat.min sLen dLen ≤ dLen := ⟨Nat.min_le_left _ _, Nat.min_le_right _ _⟩
    obtain rfl := hAA (by omega)
    obtain ⟨ad, rfl, hs⟩ := hsrc (by omega)
    have hcell : ∀ j u, (nums .u32 cs)[j]? = some u → w.cell? (ad.add j) = some u := by
      intro j u hu
      have hj := (List.getElem?_eq_some_iff.1 hu).1
      rw [nums_length] at hj
      rw [hs j hj]
      simp only [nums, List.getElem?_map, List.getElem?_eq_getElem hj, Option.map_some] at hu
      simp only [List.getD_eq_getElem?_getD, List.getElem?_eq_getElem hj, Option.getD_some]
      exact hu
    refine ⟨w.setRow wb ((nums .u32 ws).take off ++ nums .u32 cs ++ (nums .u32 ws).drop (off + (nums .u32 cs).length)).toArray, fun ty => ?_, fun i hi => setRow_other w wb i _ hi, by simp [World.setRow], ?_, rfl, rfl, rfl⟩
    · have := run_copy_row (P := Try.prog) w 40 40 ty 22 wb off dLen dCap ad sLen sCap (nums .u32 ws).toArray 22 (nums .u32 cs) Try.underlying40 (by kernel_rfl) hb (by rw [nums_length]; exact hn) hcell (by simpa [nums_length] using hfit) (nums_one _ _)
      simpa [goInt, nums_length] using this
    · rw [setRow_heap w wb _ _ 22 _ hb]
      congr 3
      rw [← nums_splice]
      simp [splice, nums_length]

section
variable {w0 W : World} {mb wb sc fb : Nat} {ps : List (Nat × Value)} {outv callsv v : Value} {sw : Int} {SA : Option Addr} {fs : List S28} {m : Mc} {x : Fr} {xs : List Fr} {i : S25}

theorem mpushf (h : Mach w0 W mb ps wb outv callsv sw SA sc fs m) (g : S28) {A4 : Option Addr} {c4 : Nat} (hfb : W.heap[fb]? = some (.cells #[.int .i64 g.f0, .int .i64 g.f1, .int .i64 g.f2, .bool g.f3, .slice A4 g.f4.length c4, .int .i64 0, .slice none 0 0] 67 (0, 0)))
    (hge : w0.heap.size ≤ fb) (hnew : ∀ p ∈ ps, p.1 ≠ fb) (l4 : g.f4.length ≤ c4) (g4 : k25.C w0 A4 g.f4.length g.f4) (hcl : (ps.length + 1) * 8 ≤ 140737488355328) :
    Calls Try.prog 31 #[.pointer (some ⟨mb, 5, none⟩), .pointer (some ⟨fb, 0, none⟩)] W fun e w' => isRet e ∧ Keep W w' ∧ ∃ callsv1, Mach w0 w' mb ((fb, .slice none 0 0) :: ps) wb outv callsv1 sw SA sc fs { m with calls := ⟨g, 0, []⟩ :: m.calls } := by
  refine (push_frame (w0 := w0) (base := w0.heap.size) (l := ps.reverse.map fun p => Value.pointer (some ⟨p.1, 0, none⟩)) fb h.mblk (o := 5) rfl h.gem (by decide) (by simpa using h.calls) h.bel h.bel.size (by simpa using hcl)).mono ?_
  rintro e w' ⟨he, v1, hr⟩
  have hS : ∀ i, i < W.heap.size → i ≠ mb → some i ≠ callsv.ownBlock → w'.heap[i]? = W.heap[i]? := hr.same
  refine ⟨he, hr.keep h.mblk h.calls (.inl rfl) (.inr (.inl rfl)), v1, ?_⟩
  refine h.callset hr.bel hr.size hS v1 _ _ (by simpa using hr.blk) (by simpa using hr.own) ⟨?_, by simp [Value.ownBlock], fun q hq => ⟨hnew q hq, .inl rfl⟩, h.frs_stay hS⟩
  refine ⟨⟨A4, c4, l4, g4, ?_⟩, own_nil _ _ _ _, hge⟩
  rw [hS fb (blk_lt hfb) (ty_ne hfb h.mblk (by decide)) (own_ne h.calls hfb (by decide))]
  exact hfb

set_option maxHeartbeats 2000000 in
set_option maxRecDepth 100000 in
theorem call_any (h : Mach w0 W mb ps wb outv callsv sw SA sc fs m) (hC : k28.C w0 SA fs.length fs) (f : Int) {A : Option Addr} {c : Nat} {args : List Int} (hr : ReadsInt W .u32 A args.length args) (hA : ∀ ad, A = some ad → ad.block ≠ wb) (m' : Mc) (hc : callF fs f args m = some m')
    (hcl : (ps.length + 1) * 8 ≤ 140737488355328) (hwl : m.words.length ≤ 1000000) :
    Calls Try.prog 20 #[.pointer (some ⟨mb, 0, none⟩), .int .i64 f, .slice A args.length c] W fun e w' => isRet e ∧ Keep W w' ∧ ∃ fb callsv1, Mach w0 w' mb ((fb, .slice none 0 0) :: ps) wb outv callsv1 sw SA sc fs m' := by
  unfold callF at hc
  split at hc
  case isFalse => cases hc
  rename_i hcond
  obtain ⟨hf0, hf1, hF0, hS0, hFS⟩ := hcond
  injection hc with hc
  obtain ⟨g, hg⟩ : ∃ g, g = rd_T28 fs f := ⟨_, rfl⟩
  obtain ⟨ad, A4, c4, hSA, q0, q1, q2, q3, q4, l4, g4⟩ := at_T28 hC f hf0 hf1
  subst hSA
  rw [← hg] at hc hF0 hS0 hFS q0 q1 q2 q3 q4 l4 g4
  obtain ⟨first, hfirst⟩ := Int.eq_ofNat_of_zero_le hF0
  obtain ⟨slots, hslots⟩ := Int.eq_ofNat_of_zero_le hS0
  have q0 := pw_cell_below h.bel q0
  have q1 := pw_cell_below h.bel q1
  have q2 := pw_cell_below h.bel q2
  have q3 := pw_cell_below h.bel q3
  have q4 := pw_cell_below h.bel q4
  rw [hslots] at q1
  rw [hfirst] at q2
  have hcut : first + slots ≤ m.words.length := by omega
  obtain ⟨AA, hsl, hAA, hAo⟩ := words_cut wb m.words.length first slots hcut
  obtain ⟨_, d1, _, d3, _, d5, _, f6⟩ := h.mcell
  have hlt : mb < W.heap.size := blk_lt h.mblk
  have wfs : IntKind.i64.wrap ((first : Int) + slots) = (first : Int) + slots := IntWalk.i64_in _ (by omega)
  obtain ⟨B0, hB0⟩ : ∃ B0 : Obj, B0 = .cells #[.int .i64 g.f0, .int .i64 slots, .int .i64 first, .bool g.f3, .slice A4 g.f4.length c4] 28 := ⟨_, rfl⟩
  obtain ⟨hb0, hk0, hbx⟩ := h.box B0
  obtain ⟨W0, hW0⟩ : ∃ W0, W0 = W.alloc B0 := ⟨_, rfl⟩
  rw [← hW0] at hb0 hk0 hbx
  have H0 := Lib.hid hb0
  have K0 := Lib.hid hk0
  have BX := Lib.hid hbx
  have E0 := Lib.hid hW0
  have EB := Lib.hid hB0
  have HG := Lib.hid (And.intro hfirst hslots)
  have HC := Lib.hid hc
  have HR := Lib.hid hr
  have HA := Lib.hid hA
  have HQ := Lib.hid (And.intro hAA hAo)
  have HG4 := Lib.hid (And.intro l4 g4)
  have HCUT := Lib.hid hcut
  have HB1 := Lib.hid (show Below W.heap.size W W0 from by rw [hW0]; exact (Below.refl _ _).alloc (Nat.le_refl _) _)
  clear hc hr hA hb0 hk0 hbx hW0 hB0 hfirst hslots h hAA hAo l4 g4 hcut hC hg hF0 hS0 hFS
  go_enter Try.func20, Try.ntmps20
  go_wp2_with fail
  rw [← EB.out, ← E0.out]
  have hbx : W0.heap[W.heap.size]? = some (.cells #[.int .i64 g.f0, .int .i64 slots, .int .i64 first, .bool g.f3, .slice A4 g.f4.length c4] 28 (0, 0)) := by rw [← EB.out]; exact BX.out
  have b1 : W0.cell? ⟨W.heap.size, 1, none⟩ = some (.int .i64 slots) := by rw [blk_cell hbx]; rfl
  have b2 : W0.cell? ⟨W.heap.size, 2, none⟩ = some (.int .i64 first) := by rw [blk_cell hbx]; rfl
  obtain ⟨_, _, _, e3, _, _, _, _⟩ := H0.out.mcell
  have HBX := Lib.hid hbx
  clear q0 q1 q2 q3 q4 d1 d3 d5 f6 hbx
  go_quiet (fail)
  generalize hq_ : World.drewN W0 _ = wq
  have hBq : Below W0.heap.size W0 wq := by rw [← hq_]; exact pw_below_drewN (Below.refl _ _) _
  have Hq := Lib.hid (H0.out.later hBq)
  have HZQ := Lib.hid hBq.size
  have Kq := Lib.hid (K0.out.trans (Keep.of_below hBq))
  have HBXq := Lib.hid (blk_below HBX.out hBq)
  have HB2 := Lib.hid (below_then HB1.out HB1.out.size hBq)
  have hclr := run_clear_words wq AA wb first slots (m.words.length - first) HQ.out.1 Hq.out.wblk (by rw [nums_length]; exact HCUT.out)
  have hclr := fun ty => hclr ty HQ.out.2
  obtain ⟨W2, hW2⟩ : ∃ W2, W2 = wq.setCells wb first (List.replicate slots (.int .u32 0)) := ⟨_, rfl⟩
  rw [← hW2] at hclr
  obtain ⟨s1, s2, s3, s4, s5, s6⟩ := setCells_heap wb (List.replicate slots (.int .u32 0)) first wq
  rw [← hW2] at s1 s2 s3 s4 s5 s6
  have hz : List.replicate slots (Value.int .u32 0) = nums .u32 (List.replicate slots 0) := by simp [nums]
  have hwb2 := s3 (nums .u32 m.words) 22 Hq.out.wblk (by rw [nums_length, List.length_replicate]; exact HCUT.out)
  rw [hz, nums_splice] at hwb2
  have hB2 : Below w0.heap.size w0 W2 := ⟨s4.trans Hq.out.bel.os, s5.trans Hq.out.bel.tape, s6.trans Hq.out.bel.output, by rw [s2]; exact Hq.out.bel.size, fun i hi => (s1 i (by have := Hq.out.gew; omega)).trans (Hq.out.bel.block i hi)⟩
  have hls : (splice m.words first (List.replicate slots 0)).length = m.words.length := length_splice _ _ _ (by rw [List.length_replicate]; exact HCUT.out)
  have H2 := Lib.hid (Hq.out.wset hB2 (fun i _ hi => s1 i hi) (splice m.words first (List.replicate slots 0)) hls hwb2)
  have hbx2 : W2.heap[W.heap.size]? = some (.cells #[.int .i64 g.f0, .int .i64 slots, .int .i64 first, .bool g.f3, .slice A4 g.f4.length c4] 28 (0, 0)) := (s1 _ (ty_ne HBXq.out Hq.out.wblk (by decide))).trans HBXq.out
  have HBX2 := Lib.hid hbx2
  have K02 := Lib.hid (show W0.heap.size ≤ W2.heap.size from by rw [s2]; exact HZQ.out)
  have K2 := Lib.hid (show Keep W W2 from Kq.out.trans ⟨by rw [s2]; exact Nat.le_refl _, fun j cs t ht hb => by rw [s1 j (ty_ne hb Hq.out.wblk (by rcases ht with rfl | rfl | rfl | rfl <;> decide))]; exact hb⟩)
  have HRA := Lib.hid (show 0 < args.length → ∃ ad, A = some ad ∧ ∀ j, j < args.length → W2.cell? (ad.add j) = some (.int .u32 (args.getD j 0)) from fun hp => by
    obtain ⟨ad, e, hcell⟩ := HR.out.2.2 hp
    refine ⟨ad, e, fun j hj => ?_⟩
    have h1 := pw_cell_below HB2.out (hcell j hj)
    have hne : (ad.add j).block ≠ wb := by
      have := HA.out ad e
      unfold Addr.add
      split <;> exact this
    rw [World.cell?_of_block (s1 _ hne)]
    exact h1)
  have hcl0 : (args.take slots).length = Nat.min args.length slots := by rw [List.length_take]; exact Nat.min_comm _ _
  have hcl1 : (args.take slots).length ≤ slots := by rw [List.length_take]; exact Nat.min_le_left _ _
  obtain ⟨W4, hcp, s41, s42, s43, s44, s45, s46⟩ := copy_words W2 AA A wb first slots (m.words.length - first) args.length c (splice m.words first (List.replicate slots 0)) (args.take slots) H2.out.wblk hcl0 HQ.out.1 (by rw [hls]; have := HCUT.out; omega)
    (fun hp => by
      obtain ⟨ad, e, hcell⟩ := HRA.out hp
      refine ⟨ad, e, fun j hj => ?_⟩
      rw [List.length_take] at hj
      rw [hcell j (by omega)]
      simp only [List.getD_eq_getElem?_getD, List.getElem?_take]
      rw [if_pos (by omega)])
  have hB4 : Below w0.heap.size w0 W4 := ⟨s44.trans H2.out.bel.os, s45.trans H2.out.bel.tape, s46.trans H2.out.bel.output, by rw [s42]; exact H2.out.bel.size, fun i hi => (s41 i (by have := H2.out.gew; omega)).trans (H2.out.bel.block i hi)⟩
  have hls4 : (layF m.words first slots args).length = m.words.length := by
    unfold layF
    rw [length_splice _ _ _ (by rw [hls]; have := HCUT.out; omega)]
    exact hls
  have H4 := Lib.hid (H2.out.wset hB4 (fun i _ hi => s41 i hi) (layF m.words first slots args) (by rw [hls4]; exact hls.symm) s43)
  have HBX4 := Lib.hid ((s41 _ (ty_ne HBX2.out H2.out.wblk (by decide))).trans HBX2.out)
  have K4 := Lib.hid (show Keep W W4 from K2.out.trans ⟨by rw [s42]; exact Nat.le_refl _, fun j cs t ht hb => by rw [s41 j (ty_ne hb H2.out.wblk (by rcases ht with rfl | rfl | rfl | rfl <;> decide))]; exact hb⟩)
  have HSZ := Lib.hid (show W.heap.size + 1 ≤ W4.heap.size from by rw [s42]; exact Nat.le_trans (Nat.le_of_eq (by rw [E0.out]; simp)) K02.out)
  clear hq_ hBq e3 b1 b2 hsl wfs s1 s2 s3 s4 s5 s6 hz hwb2 hB2 hbx2 hW2 s41 s42 s43 s44 s45 s46 hB4 hls hls4 hcl0 hcl1
  go_wp2_with fail
  obtain ⟨F, hF⟩ : ∃ F : Obj, F = .cells #[.int .i64 g.f0, .int .i64 slots, .int .i64 first, .bool g.f3, .slice A4 g.f4.length c4, .int .i64 0, .slice none 0 0] 67 := ⟨_, rfl⟩
  have HF := Lib.hid hF
  clear hF
  have HSS := Lib.hid (show ∀ V : World, V.heap[W.heap.size]? = some (.cells #[.int .i64 g.f0, .int .i64 slots, .int .i64 first, .bool g.f3, .slice A4 g.f4.length c4] 28 (0, 0)) → (V.cell? ⟨W.heap.size, 0, none⟩ = some (.int .i64 g.f0) ∧ V.cell? ⟨W.heap.size, 1, none⟩ = some (.int .i64 slots) ∧ V.cell? ⟨W.heap.size, 2, none⟩ = some (.int .i64 first) ∧ V.cell? ⟨W.heap.size, 3, none⟩ = some (.bool g.f3) ∧ V.cell? ⟨W.heap.size, 4, none⟩ = some (.slice A4 g.f4.length c4)) from fun V hV => by
    refine ⟨?_, ?_, ?_, ?_, ?_⟩ <;> (rw [blk_cell hV]; rfl))
  refine wp_region_held_drew (S := fun w' => w'.cell? ⟨W.heap.size, 0, none⟩ = some (.int .i64 g.f0) ∧ w'.cell? ⟨W.heap.size, 1, none⟩ = some (.int .i64 slots) ∧ w'.cell? ⟨W.heap.size, 2, none⟩ = some (.int .i64 first) ∧ w'.cell? ⟨W.heap.size, 3, none⟩ = some (.bool g.f3) ∧ w'.cell? ⟨W.heap.size, 4, none⟩ = some (.slice A4 g.f4.length c4)) (by kernel_rfl) (HSS.out _ (blk_drew HBX4.out)) (fun hSd => ?_)
  refine wpAnyH_take (i := 0) (v := ?_) rfl (by kernel_rfl) (by kernel_rfl) (by kernel_rfl) (fun _ _ _ h => h) (Or.inl ⟨by rfl, ?_⟩) (by assumption) ?_
  rotate_left
  · (intro w hSw; (try dsimp only at hSw); go_simp; try with_reducible rfl)
  (try simp only [List.getElem_toArray, List.getElem_cons_succ, List.getElem_cons_zero, Act.put, List.setIfInBounds_toArray, List.set_cons_zero, List.set_cons_succ])
  refine wpAnyH_take (i := 1) (v := ?_) rfl (by kernel_rfl) (by kernel_rfl) (by kernel_rfl) (fun _ _ _ h => h) (Or.inl ⟨by rfl, ?_⟩) (by assumption) ?_
  rotate_left
  · (intro w hSw; (try dsimp only at hSw); go_simp; try with_reducible rfl)
  (try simp only [List.getElem_toArray, List.getElem_cons_succ, List.getElem_cons_zero, Act.put, List.setIfInBounds_toArray, List.set_cons_zero, List.set_cons_succ])
  refine wpAnyH_take (i := 2) (v := ?_) rfl (by kernel_rfl) (by kernel_rfl) (by kernel_rfl) (fun _ _ _ h => h) (Or.inl ⟨by rfl, ?_⟩) (by assumption) ?_
  rotate_left
  · (intro w hSw; (try dsimp only at hSw); go_simp; try with_reducible rfl)
  (try simp only [List.getElem_toArray, List.getElem_cons_succ, List.getElem_cons_zero, Act.put, List.setIfInBounds_toArray, List.set_cons_zero, List.set_cons_succ])
  refine wpAnyH_take (i := 3) (v := ?_) rfl (by kernel_rfl) (by kernel_rfl) (by kernel_rfl) (fun _ _ _ h => h) (Or.inl ⟨by rfl, ?_⟩) (by assumption) ?_
  rotate_left
  · (intro w hSw; (try dsimp only at hSw); go_simp; try with_reducible rfl)
  (try simp only [List.getElem_toArray, List.getElem_cons_succ, List.getElem_cons_zero, Act.put, List.setIfInBounds_toArray, List.set_cons_zero, List.set_cons_succ])
  refine wpAnyH_take (i := 4) (v := ?_) rfl (by kernel_rfl) (by kernel_rfl) (by kernel_rfl) (fun _ _ _ h => h) (Or.inl ⟨by rfl, ?_⟩) (by assumption) ?_
  rotate_left
  · (intro w hSw; (try dsimp only at hSw); go_simp; try with_reducible rfl)
  (try simp only [List.getElem_toArray, List.getElem_cons_succ, List.getElem_cons_zero, Act.put, List.setIfInBounds_toArray, List.set_cons_zero, List.set_cons_succ])
  refine wpAnyH_ready (rs := [5]) (by kernel_rfl) (by simp) ?_
  refine AllReadyH.cons rfl (fun K hK => ?_) AllReadyH.nil
  go_simp
  rw [← HF.out]
  obtain ⟨V, hV⟩ : ∃ V, V = (W4.alloc F).drew := ⟨_, rfl⟩
  rw [← hV]
  have bV : Below W4.heap.size W4 V := by rw [hV]; exact below_drew ((Below.refl _ _).alloc (Nat.le_refl _) _)
  have hfV : V.heap[W4.heap.size]? = some F := by rw [hV]; exact blk_new W4 F
  have HV := Lib.hid (H4.out.later bV)
  have KV := Lib.hid (K4.out.trans (Keep.of_below bV))
  have HBV := Lib.hid (blk_below HBX4.out bV)
  have HFV := Lib.hid (show V.heap[W4.heap.size]? = some (.cells #[.int .i64 g.f0, .int .i64 g.f1, .int .i64 g.f2, .bool g.f3, .slice A4 g.f4.length c4, .int .i64 0, .slice none 0 0] 67 (0, 0)) from by rw [hfV, HF.out, HG.out.1, HG.out.2])
  have HNEW := Lib.hid (show ∀ p ∈ ps, p.1 ≠ W4.heap.size from fun p hp => by
    obtain ⟨⟨cs, hq⟩, _, _⟩ := Frs.typed H4.out.frs p hp
    have := blk_lt hq
    omega)
  refine hK.out _ _ (HSS.out V HBV.out) (fun hSe => ?_)
  clear hK K hV bV hfV
  (try simp only [List.getElem_toArray, List.getElem_cons_succ, List.getElem_cons_zero, Act.put, List.setIfInBounds_toArray, List.set_cons_zero, List.set_cons_succ])
  refine wpAnyH_ready (rs := [6]) (by kernel_rfl) (by simp) ?_
  refine AllReadyH.cons rfl (fun K hK => ?_) AllReadyH.nil
  go_simp
  refine (mpushf HV.out g HFV.out H4.out.bel.size HNEW.out HG4.out.1 HG4.out.2 hcl).mono ?_
  rintro e' w5 ⟨he5, hk5, cv, h5⟩
  have hr5 : e' = .returned (.tuple #[]) := he5
  subst hr5
  have H5 := Lib.hid h5
  have K5 := Lib.hid (KV.out.trans hk5)
  have HB5 := Lib.hid (hk5.keep _ _ _ (.inr (.inl rfl)) HBV.out)
  clear hk5 h5 he5
  go_wp2_with fail
  refine hK.out _ _ (HSS.out w5 HB5.out) (fun hSf => ?_)
  clear hK K
  (try simp only [List.getElem_toArray, List.getElem_cons_succ, List.getElem_cons_zero, Act.put, List.setIfInBounds_toArray, List.set_cons_zero, List.set_cons_succ])
  refine wpAnyH_done (by kernel_rfl) ?_ _
  go_wp2_with fail
  go_end0
  refine ⟨rfl, K5.out, W4.heap.size, cv, ?_⟩
  have h5 := H5.out
  have hm' := HC.out
  rw [HG.out.1, HG.out.2] at hm'
  rw [← hm']
  exact h5
end
end Go.Proofs.Ytlngcolnjgloaaa

/- The stack machine's back: a call ends. Conditions: rows below 2^47 bytes. -/
namespace Go.Proofs.Ytlngcolnjgloaaa
open Go.RowKit Go.Proofs.YtlngcolnjgloaaaW.PrintWords PStackRuns
set_option linter.unusedVariables false
set_option linter.unusedSimpArgs false

section
variable {w0 W : World} {mb wb sc fb : Nat} {ps : List (Nat × Value)} {outv callsv v : Value} {sw : Int} {SA : Option Addr} {fs : List S28} {m : Mc} {x : Fr} {xs : List Fr} {i : S25}

/-- The calls' row, and its last. -/
theorem Mach.last {yb : Nat} {vy : Value} {qs : List (Nat × Value)} (h : Mach w0 W mb ((yb, vy) :: qs) wb outv callsv sw SA sc fs m) : ∃ g cap, callsv = .slice (some ⟨g, 0, none⟩) (qs.length + 1) cap ∧ qs.length + 1 ≤ cap ∧ W.cell? ⟨g, qs.length, none⟩ = some (.pointer (some ⟨yb, 0, none⟩)) := by
  obtain ⟨g, cap, e, _, _⟩ := h.calls.form (by simp)
  have hc := h.calls
  rw [e] at hc
  refine ⟨g, cap, by simpa using e, own_cap hc, ?_⟩
  have := h.calls.cells (g := g) (by rw [e]; rfl) qs.length (.pointer (some ⟨yb, 0, none⟩)) (by simp [List.getElem?_append])
  rwa [add_plain] at this

/-- The top frame is taken off. -/
theorem mpopf (h : Mach w0 W mb ((fb, v) :: ps) wb outv callsv sw SA sc fs m) (hm : m.calls = x :: xs) :
    Calls Try.prog 52 #[.pointer (some ⟨mb, 5, none⟩)] W fun e w' => e = .returned (.pointer (some ⟨fb, 0, none⟩)) ∧ Keep W w' ∧ ∃ callsv1, Mach w0 w' mb ps wb outv callsv1 sw SA sc fs { m with calls := xs } ∧ FrameAt w0 w' fb v x ∧ v.ownBlock ≠ some wb ∧ (∀ q ∈ ps, q.1 ≠ fb ∧ (v.ownBlock = none ∨ q.2.ownBlock ≠ v.ownBlock)) := by
  refine (pop_frame (w0 := w0) (base := w0.heap.size) (l := ps.reverse.map fun p => Value.pointer (some ⟨p.1, 0, none⟩)) (x := fb) h.mblk (o := 5) rfl h.gem (by decide) (by simpa using h.calls) h.bel).mono ?_
  rintro e w' ⟨he, v1, hr⟩
  have hS : ∀ i, i < W.heap.size → i ≠ mb → some i ≠ callsv.ownBlock → w'.heap[i]? = W.heap[i]? := hr.same
  have hf := h.frs_stay hS
  rw [hm] at hf
  obtain ⟨h1, h2, h3, h4⟩ := hf
  exact ⟨he, hr.keep h.mblk h.calls (.inl rfl) (.inr (.inl rfl)), v1, h.callset hr.bel hr.size hS v1 _ _ (by simpa using hr.blk) (by simpa using hr.own) h4, h1, h2, h3⟩

/-- A word off the stack of a frame that was taken off. -/
theorem mpopx {u : Int} {l : List Int} (h : Mach w0 W mb ps wb outv callsv sw SA sc fs m) (hf : FrameAt w0 W fb v x) (hx : x.l = u :: l) (hn : v.ownBlock ≠ some wb) (ha : ∀ q ∈ ps, q.1 ≠ fb ∧ (v.ownBlock = none ∨ q.2.ownBlock ≠ v.ownBlock)) :
    Calls Try.prog 33 #[.pointer (some ⟨fb, 6, none⟩)] W fun e w' => e = .returned (.int .u32 u) ∧ Keep W w' ∧ Mach w0 w' mb ps wb outv callsv sw SA sc fs m := by
  obtain ⟨A, c, hc, hC, hb⟩ := hf.blk
  have ho := hf.own
  rw [hx] at ho
  refine (pop_word (w0 := w0) (base := w0.heap.size) (l := l.reverse) (x := u) hb (o := 6) rfl hf.ge (by decide) (by simpa using ho) h.bel).mono ?_
  rintro e w' ⟨he, v1, hr⟩
  exact ⟨he, hr.keep hb hf.own (.inr rfl) (.inl rfl), h.apart hr.bel hr.same hb hf.own hn ha⟩

set_option maxHeartbeats 1000000 in
set_option maxRecDepth 100000 in
theorem back_end (h : Mach w0 W mb ((fb, v) :: ps) wb outv callsv sw SA sc fs m) (hm : m.calls = [x]) :
    Calls Try.prog 38 #[.pointer (some ⟨mb, 0, none⟩), .pointer (some ⟨fb, 0, none⟩)] W fun e w' => isRet e ∧ Keep W w' ∧ ∃ callsv1, Mach w0 w' mb [] wb outv callsv1 sw SA sc fs { m with calls := [], end_ := 1 } := by
  have hps : ps = [] := by
    have := Frs.len h.frs
    rw [hm] at this
    simp at this
    exact this
  subst hps
  have H := Lib.hid h
  have HM := Lib.hid hm
  clear h hm
  go_enter Try.func38, Try.ntmps38
  go_wp2_with fail
  refine (mpopf H.out HM.out).mono ?_
  rintro e' w1 ⟨rfl, hk1, cv, h1, _⟩
  obtain ⟨cA, cc, rfl⟩ := own_slice h1.calls
  have H1 := Lib.hid h1
  have K1 := Lib.hid hk1
  obtain ⟨_, _, _, _, _, c5, c6, f6⟩ := h1.mcell
  have g6 := f6 6
  have HS := Lib.hid (h1.setEnd 1)
  clear hk1 h1 f6
  go_wp2_with fail
  exact bodyPost_ret (results_none rfl _ _ _) rfl ⟨rfl, K1.out.trans HS.out.2, _, by simpa using HS.out.1⟩

set_option maxHeartbeats 1000000 in
set_option maxRecDepth 100000 in
theorem back_no {y : Fr} {ys : List Fr} (h : Mach w0 W mb ((fb, v) :: ps) wb outv callsv sw SA sc fs m) (hm : m.calls = x :: y :: ys) (hw : x.f.f3 = false) :
    Calls Try.prog 38 #[.pointer (some ⟨mb, 0, none⟩), .pointer (some ⟨fb, 0, none⟩)] W fun e w' => isRet e ∧ Keep W w' ∧ ∃ callsv1, Mach w0 w' mb ps wb outv callsv1 sw SA sc fs { m with calls := y :: ys } := by
  have hps : ps.length = ys.length + 1 := by
    have := Frs.len h.frs
    rw [hm] at this
    simp at this
    exact this
  have H := Lib.hid h
  have HM := Lib.hid hm
  have HW := Lib.hid hw
  have HPS := Lib.hid hps
  clear h hm hw hps
  go_enter Try.func38, Try.ntmps38
  go_wp2_with fail
  refine (mpopf H.out HM.out).mono ?_
  rintro e' w1 ⟨rfl, hk1, cv, h1, hf, _⟩
  obtain ⟨cA, cc, rfl⟩ := own_slice h1.calls
  have H1 := Lib.hid h1
  have K1 := Lib.hid hk1
  obtain ⟨_, _, _, _, _, c5, _, _⟩ := h1.mcell
  rw [HPS.out] at c5
  obtain ⟨A, c, _, _, hb⟩ := hf.blk
  have b3 : w1.cell? ⟨fb, 3, none⟩ = some (.bool false) := by rw [blk_cell hb, ← HW.out]; rfl
  clear hk1 h1 hf hb
  go_wp2_with fail
  go_end0
  exact ⟨rfl, K1.out, _, H1.out⟩

set_option maxHeartbeats 2000000 in
set_option maxRecDepth 100000 in
theorem back_yes {y : Fr} {ys : List Fr} {u : Int} {l : List Int} (h : Mach w0 W mb ((fb, v) :: ps) wb outv callsv sw SA sc fs m) (hm : m.calls = x :: y :: ys) (hw : x.f.f3 = true) (hx : x.l = u :: l) (hl : (y.l.length + 1) * 4 ≤ 140737488355328) (hcl : ps.length ≤ 1000000) :
    Calls Try.prog 38 #[.pointer (some ⟨mb, 0, none⟩), .pointer (some ⟨fb, 0, none⟩)] W fun e w' => isRet e ∧ Keep W w' ∧ ∃ ps1 callsv1, ps1.length = ps.length ∧ Mach w0 w' mb ps1 wb outv callsv1 sw SA sc fs { m with calls := { y with l := u :: y.l } :: ys } := by
  obtain ⟨p, qs, rfl⟩ : ∃ p qs, ps = p :: qs := by
    have := Frs.len h.frs
    rw [hm] at this
    cases ps with
    | nil => simp at this
    | cons p qs => exact ⟨p, qs, rfl⟩
  obtain ⟨yb, vy⟩ := p
  obtain ⟨n, hn⟩ : ∃ n, n = qs.length := ⟨_, rfl⟩
  have hnl : n ≤ 1000000 := by rw [hn]; simp at hcl; omega
  have H := Lib.hid h
  have HM := Lib.hid hm
  have HW := Lib.hid hw
  have HX := Lib.hid hx
  have HN := Lib.hid hn
  clear h hm hw hx hn hcl
  go_enter Try.func38, Try.ntmps38
  go_wp2_with fail
  refine (mpopf H.out HM.out).mono ?_
  rintro e' w1 ⟨rfl, hk1, cv, h1, hf, hnw, hap⟩
  obtain ⟨gg, cap, rfl, hcap, hlast⟩ := h1.last
  have H1 := Lib.hid h1
  have K1 := Lib.hid hk1
  have HF1 := Lib.hid hf
  have HNW := Lib.hid hnw
  have HAP := Lib.hid hap
  have HLS := Lib.hid (show ∀ V m', Mach w0 V mb ((yb, vy) :: qs) wb outv (.slice (some ⟨gg, 0, none⟩) (qs.length + 1) cap) sw SA sc fs m' → (V.cell? ⟨mb, 5, none⟩ = some (.slice (some ⟨gg, 0, none⟩) (n + 1) cap) ∧ V.cell? ⟨gg, n, none⟩ = some (.pointer (some ⟨yb, 0, none⟩))) from fun V m' hV => by
    obtain ⟨g2, cap2, e2, _, hl2⟩ := hV.last
    injection e2 with e2 _ _
    injection e2 with e2
    injection e2 with e2
    subst e2
    rw [HN.out]
    exact ⟨hV.mcell.2.2.2.2.2.1, hl2⟩)
  have HLS2 := Lib.hid (show ∀ V m' vz, Mach w0 V mb ((yb, vz) :: qs) wb outv (.slice (some ⟨gg, 0, none⟩) (qs.length + 1) cap) sw SA sc fs m' → (V.cell? ⟨mb, 5, none⟩ = some (.slice (some ⟨gg, 0, none⟩) (n + 1) cap) ∧ V.cell? ⟨gg, n, none⟩ = some (.pointer (some ⟨yb, 0, none⟩))) from fun V m' vz hV => by
    obtain ⟨g2, cap2, e2, _, hl2⟩ := hV.last
    injection e2 with e2 _ _
    injection e2 with e2
    injection e2 with e2
    subst e2
    rw [HN.out]
    exact ⟨hV.mcell.2.2.2.2.2.1, hl2⟩)
  obtain ⟨c5, clast⟩ := HLS.out w1 _ h1
  obtain ⟨A, c, _, _, hb⟩ := hf.blk
  have b3 : w1.cell? ⟨fb, 3, none⟩ = some (.bool true) := by rw [blk_cell hb, ← HW.out]; rfl
  have hcap1 : n + 1 ≤ cap := by rw [HN.out]; exact hcap
  have z0 : (0 : Int) ≤ n := by omega
  have z1 : (n : Int) < n + 1 := by omega
  have wn : IntKind.i64.wrap (n : Int) = n := IntWalk.i64_in _ (by omega)
  clear hk1 h1 hf hb hnw hap hlast hcap
  go_wp2_with fail
  refine wp_region_held_drew (S := fun w' => w'.cell? ⟨mb, 5, none⟩ = some (.slice (some ⟨gg, 0, none⟩) (n + 1) cap) ∧ w'.cell? ⟨gg, n, none⟩ = some (.pointer (some ⟨yb, 0, none⟩))) (by kernel_rfl) (by simp [c5, clast]) (fun hSd => ?_)
  refine wpAnyH_take (i := 0) (v := ?_) rfl (by kernel_rfl) (by kernel_rfl) (by kernel_rfl) (fun _ _ _ h => h) (Or.inl ⟨by rfl, ?_⟩) (by assumption) ?_
  rotate_left
  · (intro w hSw; (try dsimp only at hSw); go_simp; try with_reducible rfl)
  (try simp only [List.getElem_toArray, List.getElem_cons_succ, List.getElem_cons_zero, Act.put, List.setIfInBounds_toArray, List.set_cons_zero, List.set_cons_succ])
  refine wpAnyH_take (i := 1) (v := ?_) rfl (by kernel_rfl) (by kernel_rfl) (by kernel_rfl) (fun _ _ _ h => h) (Or.inl ⟨by rfl, ?_⟩) (by assumption) ?_
  rotate_left
  · (intro w hSw; (try dsimp only at hSw); go_simp; try with_reducible rfl)
  (try simp only [List.getElem_toArray, List.getElem_cons_succ, List.getElem_cons_zero, Act.put, List.setIfInBounds_toArray, List.set_cons_zero, List.set_cons_succ])
  refine wpAnyH_take (i := 2) (v := ?_) rfl (by kernel_rfl) (by kernel_rfl) (by kernel_rfl) (fun _ _ _ h => h) (Or.inl ⟨by rfl, ?_⟩) (by assumption) ?_
  rotate_left
  · (intro w hSw; (try dsimp only at hSw); go_simp; try with_reducible rfl)
  (try simp only [List.getElem_toArray, List.getElem_cons_succ, List.getElem_cons_zero, Act.put, List.setIfInBounds_toArray, List.set_cons_zero, List.set_cons_succ])
  refine wpAnyH_take (i := 3) (v := ?_) rfl (by kernel_rfl) (by kernel_rfl) (by kernel_rfl) (fun _ _ _ h => h) (Or.inl ⟨by rfl, ?_⟩) (by assumption) ?_
  rotate_left
  · (intro w hSw; (try dsimp only at hSw); go_simp; try with_reducible rfl)
  (try simp only [List.getElem_toArray, List.getElem_cons_succ, List.getElem_cons_zero, Act.put, List.setIfInBounds_toArray, List.set_cons_zero, List.set_cons_succ])
  refine wpAnyH_take (i := 4) (v := ?_) rfl (by kernel_rfl) (by kernel_rfl) (by kernel_rfl) (fun _ _ _ h => h) (Or.inl ⟨by rfl, ?_⟩) (by assumption) ?_
  rotate_left
  · (intro w hSw; (try dsimp only at hSw); go_simp; try with_reducible rfl)
  (try simp only [List.getElem_toArray, List.getElem_cons_succ, List.getElem_cons_zero, Act.put, List.setIfInBounds_toArray, List.set_cons_zero, List.set_cons_succ])
  refine wpAnyH_take (i := 5) (v := ?_) rfl (by kernel_rfl) (by kernel_rfl) (by kernel_rfl) (fun _ _ _ h => h) (Or.inl ⟨by rfl, ?_⟩) (by assumption) ?_
  rotate_left
  · (intro w hSw; (try dsimp only at hSw); go_simp; try with_reducible rfl)
  (try simp only [List.getElem_toArray, List.getElem_cons_succ, List.getElem_cons_zero, Act.put, List.setIfInBounds_toArray, List.set_cons_zero, List.set_cons_succ])
  refine wpAnyH_take (i := 6) (v := ?_) rfl (by kernel_rfl) (by kernel_rfl) (by kernel_rfl) (fun _ _ _ h => h) (Or.inl ⟨by rfl, ?_⟩) (by assumption) ?_
  rotate_left
  · (intro w hSw; (try dsimp only at hSw); go_simp; try with_reducible rfl)
  (try simp only [List.getElem_toArray, List.getElem_cons_succ, List.getElem_cons_zero, Act.put, List.setIfInBounds_toArray, List.set_cons_zero, List.set_cons_succ])
  refine wpAnyH_take (i := 7) (v := ?_) rfl (by kernel_rfl) (by kernel_rfl) (by kernel_rfl) (fun _ _ _ h => h) (Or.inl ⟨by rfl, ?_⟩) (by assumption) ?_
  rotate_left
  · (intro w hSw; (try dsimp only at hSw); go_simp; try with_reducible rfl)
  (try simp only [List.getElem_toArray, List.getElem_cons_succ, List.getElem_cons_zero, Act.put, List.setIfInBounds_toArray, List.set_cons_zero, List.set_cons_succ])
  refine wpAnyH_take (i := 8) (v := ?_) rfl (by kernel_rfl) (by kernel_rfl) (by kernel_rfl) (fun _ _ _ h => h) (Or.inl ⟨by rfl, ?_⟩) (by assumption) ?_
  rotate_left
  · (intro w hSw; (try dsimp only at hSw); go_simp; try with_reducible rfl)
  (try simp only [List.getElem_toArray, List.getElem_cons_succ, List.getElem_cons_zero, Act.put, List.setIfInBounds_toArray, List.set_cons_zero, List.set_cons_succ])
  refine wpAnyH_take (i := 9) (v := ?_) rfl (by kernel_rfl) (by kernel_rfl) (by kernel_rfl) (fun _ _ _ h => h) (Or.inl ⟨by rfl, ?_⟩) (by assumption) ?_
  rotate_left
  · (intro w hSw; (try dsimp only at hSw); go_simp; try with_reducible rfl)
  (try simp only [List.getElem_toArray, List.getElem_cons_succ, List.getElem_cons_zero, Act.put, List.setIfInBounds_toArray, List.set_cons_zero, List.set_cons_succ])
  refine wpAnyH_take (i := 10) (v := ?_) rfl (by kernel_rfl) (by kernel_rfl) (by kernel_rfl) (fun _ _ _ h => h) (Or.inl ⟨by rfl, ?_⟩) (by assumption) ?_
  rotate_left
  · (intro w hSw; (try dsimp only at hSw); go_simp; try with_reducible rfl)
  (try simp only [List.getElem_toArray, List.getElem_cons_succ, List.getElem_cons_zero, Act.put, List.setIfInBounds_toArray, List.set_cons_zero, List.set_cons_succ])
  refine wpAnyH_take (i := 11) (v := ?_) rfl (by kernel_rfl) (by kernel_rfl) (by kernel_rfl) (fun _ _ _ h => h) (Or.inl ⟨by rfl, ?_⟩) (by assumption) ?_
  rotate_left
  · (intro w hSw; (try dsimp only at hSw); go_simp; try with_reducible rfl)
  (try simp only [List.getElem_toArray, List.getElem_cons_succ, List.getElem_cons_zero, Act.put, List.setIfInBounds_toArray, List.set_cons_zero, List.set_cons_succ])
  refine wpAnyH_take (i := 12) (v := ?_) rfl (by kernel_rfl) (by kernel_rfl) (by kernel_rfl) (fun _ _ _ h => h) (Or.inl ⟨by rfl, ?_⟩) (by assumption) ?_
  rotate_left
  · (intro w hSw; (try dsimp only at hSw); go_simp; try with_reducible rfl)
  (try simp only [List.getElem_toArray, List.getElem_cons_succ, List.getElem_cons_zero, Act.put, List.setIfInBounds_toArray, List.set_cons_zero, List.set_cons_succ])
  refine wpAnyH_take (i := 13) (v := ?_) rfl (by kernel_rfl) (by kernel_rfl) (by kernel_rfl) (fun _ _ _ h => h) (Or.inl ⟨by rfl, ?_⟩) (by assumption) ?_
  rotate_left
  · (intro w hSw; (try dsimp only at hSw); go_simp; try with_reducible rfl)
  (try simp only [List.getElem_toArray, List.getElem_cons_succ, List.getElem_cons_zero, Act.put, List.setIfInBounds_toArray, List.set_cons_zero, List.set_cons_succ])
  refine wpAnyH_take (i := 14) (v := ?_) rfl (by kernel_rfl) (by kernel_rfl) (by kernel_rfl) (fun _ _ _ h => h) (Or.inl ⟨by rfl, ?_⟩) (by assumption) ?_
  rotate_left
  · (intro w hSw; (try dsimp only at hSw); go_simp; try with_reducible rfl)
  (try simp only [List.getElem_toArray, List.getElem_cons_succ, List.getElem_cons_zero, Act.put, List.setIfInBounds_toArray, List.set_cons_zero, List.set_cons_succ])
  refine wpAnyH_take (i := 15) (v := ?_) rfl (by kernel_rfl) (by kernel_rfl) (by kernel_rfl) (fun _ _ _ h => h) (Or.inl ⟨by rfl, ?_⟩) (by assumption) ?_
  rotate_left
  · (intro w hSw; (try dsimp only at hSw); go_simp; try with_reducible rfl)
  (try simp only [List.getElem_toArray, List.getElem_cons_succ, List.getElem_cons_zero, Act.put, List.setIfInBounds_toArray, List.set_cons_zero, List.set_cons_succ])
  refine wpAnyH_take (i := 16) (v := ?_) rfl (by kernel_rfl) (by kernel_rfl) (by kernel_rfl) (fun _ _ _ h => h) (Or.inl ⟨by rfl, ?_⟩) (by assumption) ?_
  rotate_left
  · (intro w hSw; (try dsimp only at hSw); go_simp; try with_reducible rfl)
  (try simp only [List.getElem_toArray, List.getElem_cons_succ, List.getElem_cons_zero, Act.put, List.setIfInBounds_toArray, List.set_cons_zero, List.set_cons_succ])
  refine wpAnyH_take (i := 17) (v := ?_) rfl (by kernel_rfl) (by kernel_rfl) (by kernel_rfl) (fun _ _ _ h => h) (Or.inl ⟨by rfl, ?_⟩) (by assumption) ?_
  rotate_left
  · (intro w hSw; (try dsimp only at hSw); go_simp; try with_reducible rfl)
  (try simp only [List.getElem_toArray, List.getElem_cons_succ, List.getElem_cons_zero, Act.put, List.setIfInBounds_toArray, List.set_cons_zero, List.set_cons_succ])
  refine wpAnyH_take (i := 18) (v := ?_) rfl (by kernel_rfl) (by kernel_rfl) (by kernel_rfl) (fun _ _ _ h => h) (Or.inl ⟨by rfl, ?_⟩) (by assumption) ?_
  rotate_left
  · (intro w hSw; (try dsimp only at hSw); go_simp; try with_reducible rfl)
  (try simp only [List.getElem_toArray, List.getElem_cons_succ, List.getElem_cons_zero, Act.put, List.setIfInBounds_toArray, List.set_cons_zero, List.set_cons_succ])
  refine wpAnyH_ready (rs := [19]) (by kernel_rfl) (by simp) ?_
  refine AllReadyH.cons rfl (fun K hK => ?_) AllReadyH.nil
  go_simp
  have bD : Below w1.heap.size w1 w1.drew := below_drew (Below.refl _ _)
  have HD1 := Lib.hid (H1.out.later bD)
  have HFD := Lib.hid (HF1.out.move (W' := w1.drew) rfl (fun k _ => rfl))
  have KD := Lib.hid (K1.out.trans (Keep.of_below bD))
  clear bD
  refine (mpopx HD1.out HFD.out HX.out HNW.out HAP.out).mono ?_
  rintro e' w2 ⟨rfl, hk2, h2⟩
  have H2 := Lib.hid h2
  have K2 := Lib.hid (KD.out.trans hk2)
  clear hk2 h2
  go_wp2_with fail
  refine hK.out _ _ (HLS.out w2 _ H2.out) (fun hSe => ?_)
  clear hK K
  (try simp only [List.getElem_toArray, List.getElem_cons_succ, List.getElem_cons_zero, Act.put, List.setIfInBounds_toArray, List.set_cons_zero, List.set_cons_succ])
  refine wpAnyH_ready (rs := [20]) (by kernel_rfl) (by simp) ?_
  refine AllReadyH.cons rfl (fun K hK => ?_) AllReadyH.nil
  go_simp
  refine (mpush H2.out rfl u hl).mono ?_
  rintro e' w3 ⟨he3, hk3, vz, h3⟩
  have hr3 : e' = .returned (.tuple #[]) := he3
  subst hr3
  have H3 := Lib.hid h3
  have K3 := Lib.hid (K2.out.trans hk3)
  clear hk3 h3 he3
  go_wp2_with fail
  refine hK.out _ _ (HLS2.out w3 _ vz H3.out) (fun hSf => ?_)
  clear hK K
  (try simp only [List.getElem_toArray, List.getElem_cons_succ, List.getElem_cons_zero, Act.put, List.setIfInBounds_toArray, List.set_cons_zero, List.set_cons_succ])
  refine wpAnyH_done (by kernel_rfl) ?_ _
  go_wp2_with fail
  go_end0
  exact ⟨rfl, K3.out, (yb, vz) :: qs, _, by simp, H3.out⟩
end
end Go.Proofs.Ytlngcolnjgloaaa

/- The stack machine's do: an instruction. Conditions: rows below 2^47 bytes. -/
namespace Go.Proofs.Ytlngcolnjgloaaa
open Go.RowKit Go.Proofs.YtlngcolnjgloaaaW.PrintWords PStackRuns
set_option linter.unusedVariables false
set_option linter.unusedSimpArgs false

section
variable {w0 W : World} {mb wb sc fb : Nat} {ps : List (Nat × Value)} {outv callsv v : Value} {sw : Int} {SA : Option Addr} {fs : List S28} {m : Mc} {x : Fr} {xs : List Fr} {f1 f2 f3 : Int}

theorem Mach.fcell (h : Mach w0 W mb ((fb, v) :: ps) wb outv callsv sw SA sc fs m) (hm : m.calls = x :: xs) : W.cell? ⟨fb, 5, none⟩ = some (.int .i64 x.at_) ∧ W.frozen? ⟨fb, 5, none⟩ = false := by
  obtain ⟨A, c, hc, hC, hb⟩ := (h.top_at hm).blk
  exact ⟨by rw [blk_cell hb]; rfl, blk_frozen hb 5⟩
theorem Mach.setAt (h : Mach w0 W mb ((fb, v) :: ps) wb outv callsv sw SA sc fs m) (hm : m.calls = x :: xs) (a : Int) : Mach w0 (W.setCell ⟨fb, 5, none⟩ (.int .i64 a)) mb ((fb, v) :: ps) wb outv callsv sw SA sc fs { m with calls := { x with at_ := a } :: xs } ∧ Keep W (W.setCell ⟨fb, 5, none⟩ (.int .i64 a)) := by
  have hf := h.top_at hm
  obtain ⟨A, c, hc, hC, hb⟩ := hf.blk
  have hs : ∀ i, i < W.heap.size → i ≠ fb → (W.setCell ⟨fb, 5, none⟩ (.int .i64 a)).heap[i]? = W.heap[i]? := fun i _ hi => Below.heap_setCell _ _ _ _ (by exact hi)
  refine ⟨h.top hm (h.bel.setCell (p := ⟨fb, 5, none⟩) hf.ge _) (by simp) (fun i hi h1 _ => hs i hi h1) ⟨⟨A, c, hc, hC, by simpa using blk_set hb 5 (.int .i64 a)⟩, own_setCell hf.own (own_ne hf.own hb (by decide)) _, hf.ge⟩ (.inl rfl), ⟨by simp, fun j cs t ht hbj => ?_⟩⟩
  rw [hs j (blk_lt hbj) (ty_ne hbj hb (by rcases ht with rfl | rfl | rfl | rfl <;> decide))]
  exact hbj

set_option maxHeartbeats 2000000 in
set_option maxRecDepth 100000 in
theorem do_push (h : Mach w0 W mb ((fb, v) :: ps) wb outv callsv sw SA sc fs m) (hm : m.calls = x :: xs) (hl : (x.l.length + 1) * 4 ≤ 140737488355328) :
    Calls Try.prog 21 #[.pointer (some ⟨mb, 0, none⟩), .pointer (some ⟨fb, 0, none⟩), insV ⟨1, f1, f2, f3⟩] W fun e' w' => isRet e' ∧ Keep W w' ∧ ∃ ps1 outv1 callsv1, Mach w0 w' mb ps1 wb outv1 callsv1 sw SA sc fs { m with calls := { x with l := f3 :: x.l } :: xs } := by
  obtain ⟨hb0, hk0, hbx⟩ := h.box (insO ⟨1, f1, f2, f3⟩)
  obtain ⟨W0, hW0⟩ : ∃ W0, W0 = W.alloc (insO ⟨1, f1, f2, f3⟩) := ⟨_, rfl⟩
  rw [← hW0] at hb0 hk0 hbx
  have H0 := Lib.hid hb0
  have K0 := Lib.hid hk0
  have BX := Lib.hid hbx
  have E0 := Lib.hid hW0
  have HM := Lib.hid hm
  clear hb0 hk0 hbx hW0 h hm
  go_enter Try.func21, Try.ntmps21
  go_wp2_with fail
  rw [show (W.alloc (.cells #[.int .i64 1, .int .i64 f1, .int .i64 f2, .int .u32 f3] 25)) = W0 from E0.out.symm]
  obtain ⟨W3, hW3⟩ : ∃ W3 : World, W3 = { W0 with drawn := W0.drawn + 1 } := ⟨_, rfl⟩
  have hB3 : Below W0.heap.size W0 W3 := by rw [hW3]; exact below_drew (Below.refl _ _)
  have H3 := Lib.hid (H0.out.later hB3)
  have K3 := Lib.hid (K0.out.trans (Keep.of_below hB3))
  obtain ⟨_, b1, _, b3⟩ := ins_cells BX.out (Keep.of_below hB3)
  refine wp_region_still_tail 5 (by kernel_rfl) (by kernel_rfl) ?_
  rw [← hW3]
  clear hW3 hB3
  simp only [List.take_succ_cons, List.take_zero, List.drop_succ_cons, List.drop_zero]
  repeat still_step
  refine wpStill_nil ?_
  go_wp2_with fail
  refine (mpush H3.out HM.out f3 hl).mono ?_
  rintro e' w4 ⟨he4, hk4, v4, h4⟩
  have hr4 : e' = .returned (.tuple #[]) := he4
  subst hr4
  have H4 := Lib.hid h4
  have K4 := Lib.hid (K3.out.trans hk4)
  clear hk4 h4 he4
  go_wp2_with fail
  go_end0
  exact ⟨rfl, K4.out, _, _, _, H4.out⟩
set_option maxHeartbeats 2000000 in
set_option maxRecDepth 100000 in
theorem do_load (h : Mach w0 W mb ((fb, v) :: ps) wb outv callsv sw SA sc fs m) (hm : m.calls = x :: xs) (hl : (x.l.length + 1) * 4 ≤ 140737488355328) (h0 : 0 ≤ f1) (h1 : f1 < m.words.length) :
    Calls Try.prog 21 #[.pointer (some ⟨mb, 0, none⟩), .pointer (some ⟨fb, 0, none⟩), insV ⟨2, f1, f2, f3⟩] W fun e' w' => isRet e' ∧ Keep W w' ∧ ∃ ps1 outv1 callsv1, Mach w0 w' mb ps1 wb outv1 callsv1 sw SA sc fs { m with calls := { x with l := rd m.words f1 :: x.l } :: xs } := by
  obtain ⟨n, rfl⟩ := Int.eq_ofNat_of_zero_le h0
  have hnw : n < m.words.length := by omega
  have HNW := Lib.hid hnw
  have n0 : (0 : Int) ≤ n := by omega
  have n1 : (n : Int) < m.words.length := h1
  clear h0 h1
  obtain ⟨hb0, hk0, hbx⟩ := h.box (insO ⟨2, n, f2, f3⟩)
  obtain ⟨W0, hW0⟩ : ∃ W0, W0 = W.alloc (insO ⟨2, n, f2, f3⟩) := ⟨_, rfl⟩
  rw [← hW0] at hb0 hk0 hbx
  have H0 := Lib.hid hb0
  have K0 := Lib.hid hk0
  have BX := Lib.hid hbx
  have E0 := Lib.hid hW0
  have HM := Lib.hid hm
  clear hb0 hk0 hbx hW0 h hm
  go_enter Try.func21, Try.ntmps21
  go_wp2_with fail
  rw [show (W.alloc (.cells #[.int .i64 2, .int .i64 n, .int .i64 f2, .int .u32 f3] 25)) = W0 from E0.out.symm]
  obtain ⟨W3, hW3⟩ : ∃ W3 : World, W3 = { W0 with drawn := W0.drawn + 1 } := ⟨_, rfl⟩
  have hB3 : Below W0.heap.size W0 W3 := by rw [hW3]; exact below_drew (Below.refl _ _)
  have H3 := Lib.hid (H0.out.later hB3)
  have K3 := Lib.hid (K0.out.trans (Keep.of_below hB3))
  obtain ⟨_, b1, _, b3⟩ := ins_cells BX.out (Keep.of_below hB3)
  refine wp_region_still_tail 11 (by kernel_rfl) (by kernel_rfl) ?_
  rw [← hW3]
  obtain ⟨_, _, _, d3, _, _, _, _⟩ := H3.out.mcell
  obtain ⟨c1, g1⟩ := H3.out.wcell n HNW.out
  clear hW3 hB3
  simp only [List.take_succ_cons, List.take_zero, List.drop_succ_cons, List.drop_zero]
  repeat still_step
  refine wpStill_nil ?_
  go_wp2_with fail
  refine (mpush H3.out HM.out (rd m.words n) hl).mono ?_
  rintro e' w4 ⟨he4, hk4, v4, h4⟩
  have hr4 : e' = .returned (.tuple #[]) := he4
  subst hr4
  have H4 := Lib.hid h4
  have K4 := Lib.hid (K3.out.trans hk4)
  clear hk4 h4 he4
  go_wp2_with fail
  go_end0
  exact ⟨rfl, K4.out, _, _, _, H4.out⟩
set_option maxHeartbeats 2000000 in
set_option maxRecDepth 100000 in
theorem do_store (h : Mach w0 W mb ((fb, v) :: ps) wb outv callsv sw SA sc fs m) (hm : m.calls = x :: xs) {u : Int} {l : List Int} (hx : x.l = u :: l) (h0 : 0 ≤ f1) (h1 : f1 < m.words.length) :
    Calls Try.prog 21 #[.pointer (some ⟨mb, 0, none⟩), .pointer (some ⟨fb, 0, none⟩), insV ⟨3, f1, f2, f3⟩] W fun e' w' => isRet e' ∧ Keep W w' ∧ ∃ ps1 outv1 callsv1, Mach w0 w' mb ps1 wb outv1 callsv1 sw SA sc fs { m with words := m.words.set f1.toNat u, calls := { x with l := l } :: xs } := by
  obtain ⟨n, rfl⟩ := Int.eq_ofNat_of_zero_le h0
  have hnw : n < m.words.length := by omega
  have HNW := Lib.hid hnw
  have n0 : (0 : Int) ≤ n := by omega
  have n1 : (n : Int) < m.words.length := h1
  clear h0 h1
  have HXL := Lib.hid hx
  clear hx
  obtain ⟨hb0, hk0, hbx⟩ := h.box (insO ⟨3, n, f2, f3⟩)
  obtain ⟨W0, hW0⟩ : ∃ W0, W0 = W.alloc (insO ⟨3, n, f2, f3⟩) := ⟨_, rfl⟩
  rw [← hW0] at hb0 hk0 hbx
  have H0 := Lib.hid hb0
  have K0 := Lib.hid hk0
  have BX := Lib.hid hbx
  have E0 := Lib.hid hW0
  have HM := Lib.hid hm
  clear hb0 hk0 hbx hW0 h hm
  go_enter Try.func21, Try.ntmps21
  go_wp2_with fail
  rw [show (W.alloc (.cells #[.int .i64 3, .int .i64 n, .int .i64 f2, .int .u32 f3] 25)) = W0 from E0.out.symm]
  have HSS := Lib.hid (show ∀ V m', m'.words.length = m.words.length → Keep W0 V → (∃ ps1 outv1 callsv1, Mach w0 V mb ps1 wb outv1 callsv1 sw SA sc fs m') → (V.cell? ⟨mb, 3, none⟩ = some (.slice (some ⟨wb, 0, none⟩) m.words.length m.words.length) ∧ V.cell? ⟨W.heap.size, 1, none⟩ = some (.int .i64 n)) from fun V m' hl hk ⟨_, _, _, hV⟩ => by
    obtain ⟨_, _, _, d3, _, _, _, _⟩ := hV.mcell
    rw [hl] at d3
    exact ⟨d3, (ins_cells BX.out hk).2.1⟩)
  have bD : Below W0.heap.size W0 W0.drew := below_drew (Below.refl _ _)
  have HD := Lib.hid (H0.out.later bD)
  have KD := Lib.hid (Keep.of_below bD)
  clear bD
  refine wp_region_held_drew (S := fun w' => w'.cell? ⟨mb, 3, none⟩ = some (.slice (some ⟨wb, 0, none⟩) m.words.length m.words.length) ∧ w'.cell? ⟨W.heap.size, 1, none⟩ = some (.int .i64 n)) (by kernel_rfl) (HSS.out _ m rfl KD.out ⟨_, _, _, HD.out⟩) (fun hSd => ?_)
  refine wpAnyH_take (i := 0) (v := ?_) rfl (by kernel_rfl) (by kernel_rfl) (by kernel_rfl) (fun _ _ _ h => h) (Or.inl ⟨by rfl, ?_⟩) (by assumption) ?_
  rotate_left
  · (intro w hSw; (try dsimp only at hSw); go_simp; try with_reducible rfl)
  (try simp only [List.getElem_toArray, List.getElem_cons_succ, List.getElem_cons_zero, Act.put, List.setIfInBounds_toArray, List.set_cons_zero, List.set_cons_succ])
  refine wpAnyH_take (i := 1) (v := ?_) rfl (by kernel_rfl) (by kernel_rfl) (by kernel_rfl) (fun _ _ _ h => h) (Or.inl ⟨by rfl, ?_⟩) (by assumption) ?_
  rotate_left
  · (intro w hSw; (try dsimp only at hSw); go_simp; try with_reducible rfl)
  (try simp only [List.getElem_toArray, List.getElem_cons_succ, List.getElem_cons_zero, Act.put, List.setIfInBounds_toArray, List.set_cons_zero, List.set_cons_succ])
  refine wpAnyH_take (i := 2) (v := ?_) rfl (by kernel_rfl) (by kernel_rfl) (by kernel_rfl) (fun _ _ _ h => h) (Or.inl ⟨by rfl, ?_⟩) (by assumption) ?_
  rotate_left
  · (intro w hSw; (try dsimp only at hSw); go_simp; try with_reducible rfl)
  (try simp only [List.getElem_toArray, List.getElem_cons_succ, List.getElem_cons_zero, Act.put, List.setIfInBounds_toArray, List.set_cons_zero, List.set_cons_succ])
  refine wpAnyH_take (i := 3) (v := ?_) rfl (by kernel_rfl) (by kernel_rfl) (by kernel_rfl) (fun _ _ _ h => h) (Or.inl ⟨by rfl, ?_⟩) (by assumption) ?_
  rotate_left
  · (intro w hSw; (try dsimp only at hSw); go_simp; try with_reducible rfl)
  (try simp only [List.getElem_toArray, List.getElem_cons_succ, List.getElem_cons_zero, Act.put, List.setIfInBounds_toArray, List.set_cons_zero, List.set_cons_succ])
  refine wpAnyH_take (i := 4) (v := ?_) rfl (by kernel_rfl) (by kernel_rfl) (by kernel_rfl) (fun _ _ _ h => h) (Or.inl ⟨by rfl, ?_⟩) (by assumption) ?_
  rotate_left
  · (intro w hSw; (try dsimp only at hSw); go_simp; try with_reducible rfl)
  (try simp only [List.getElem_toArray, List.getElem_cons_succ, List.getElem_cons_zero, Act.put, List.setIfInBounds_toArray, List.set_cons_zero, List.set_cons_succ])
  refine wpAnyH_take (i := 5) (v := ?_) rfl (by kernel_rfl) (by kernel_rfl) (by kernel_rfl) (fun _ _ _ h => h) (Or.inl ⟨by rfl, ?_⟩) (by assumption) ?_
  rotate_left
  · (intro w hSw; (try dsimp only at hSw); go_simp; try with_reducible rfl)
  (try simp only [List.getElem_toArray, List.getElem_cons_succ, List.getElem_cons_zero, Act.put, List.setIfInBounds_toArray, List.set_cons_zero, List.set_cons_succ])
  refine wpAnyH_take (i := 6) (v := ?_) rfl (by kernel_rfl) (by kernel_rfl) (by kernel_rfl) (fun _ _ _ h => h) (Or.inl ⟨by rfl, ?_⟩) (by assumption) ?_
  rotate_left
  · (intro w hSw; (try dsimp only at hSw); go_simp; try with_reducible rfl)
  (try simp only [List.getElem_toArray, List.getElem_cons_succ, List.getElem_cons_zero, Act.put, List.setIfInBounds_toArray, List.set_cons_zero, List.set_cons_succ])
  refine wpAnyH_take (i := 7) (v := ?_) rfl (by kernel_rfl) (by kernel_rfl) (by kernel_rfl) (fun _ _ _ h => h) (Or.inl ⟨by rfl, ?_⟩) (by assumption) ?_
  rotate_left
  · (intro w hSw; (try dsimp only at hSw); go_simp; try with_reducible rfl)
  (try simp only [List.getElem_toArray, List.getElem_cons_succ, List.getElem_cons_zero, Act.put, List.setIfInBounds_toArray, List.set_cons_zero, List.set_cons_succ])
  refine wpAnyH_take (i := 8) (v := ?_) rfl (by kernel_rfl) (by kernel_rfl) (by kernel_rfl) (fun _ _ _ h => h) (Or.inl ⟨by rfl, ?_⟩) (by assumption) ?_
  rotate_left
  · (intro w hSw; (try dsimp only at hSw); go_simp; try with_reducible rfl)
  (try simp only [List.getElem_toArray, List.getElem_cons_succ, List.getElem_cons_zero, Act.put, List.setIfInBounds_toArray, List.set_cons_zero, List.set_cons_succ])
  refine wpAnyH_ready (rs := [9]) (by kernel_rfl) (by simp) ?_
  refine AllReadyH.cons rfl (fun K hK => ?_) AllReadyH.nil
  go_simp
  refine (mpop HD.out HM.out HXL.out).mono ?_
  rintro e' w1 ⟨rfl, hk1, v1, h1⟩
  have H1 := Lib.hid h1
  have K1 := Lib.hid (KD.out.trans hk1)
  obtain ⟨c1, g1⟩ := h1.wcell n HNW.out
  have HSW := Lib.hid (h1.setW n u)
  clear hk1 h1
  go_wp2_with fail
  refine hK.out _ _ (HSS.out w1 _ (by rfl) K1.out ⟨_, _, _, H1.out⟩) (fun hSe => ?_)
  clear hK K
  (try simp only [List.getElem_toArray, List.getElem_cons_succ, List.getElem_cons_zero, Act.put, List.setIfInBounds_toArray, List.set_cons_zero, List.set_cons_succ])
  refine wpAnyH_take (i := 10) (v := ?_) rfl (by kernel_rfl) (by kernel_rfl) (by kernel_rfl) (fun _ _ _ h => h) (Or.inl ⟨by rfl, ?_⟩) (by assumption) ?_
  rotate_left
  · (intro w hSw; (try dsimp only at hSw); go_simp; try with_reducible rfl)
  (try simp only [List.getElem_toArray, List.getElem_cons_succ, List.getElem_cons_zero, Act.put, List.setIfInBounds_toArray, List.set_cons_zero, List.set_cons_succ])
  refine wpAnyH_ready (rs := [11]) (by kernel_rfl) (by simp) ?_
  refine AllReadyH.cons rfl (fun K hK => ?_) AllReadyH.nil
  go_simp
  refine hK.out _ _ (HSS.out _ _ (by simp) (K1.out.trans HSW.out.2) ⟨_, _, _, HSW.out.1⟩) (fun hSf => ?_)
  clear hK K
  (try simp only [List.getElem_toArray, List.getElem_cons_succ, List.getElem_cons_zero, Act.put, List.setIfInBounds_toArray, List.set_cons_zero, List.set_cons_succ])
  refine wpAnyH_done (by kernel_rfl) ?_ _
  go_wp2_with fail
  go_end0
  exact ⟨rfl, K0.out.trans (K1.out.trans HSW.out.2), _, _, _, HSW.out.1⟩
set_option maxHeartbeats 2000000 in
set_option maxRecDepth 100000 in
theorem do_aload_far (h : Mach w0 W mb ((fb, v) :: ps) wb outv callsv sw SA sc fs m) (hm : m.calls = x :: xs) {u : Int} {l : List Int} (hx : x.l = u :: l) (hu : word u) (h0 : 0 ≤ f2) (h1 : f2 ≤ 4096) (hl : ¬ u < f2) :
    Calls Try.prog 21 #[.pointer (some ⟨mb, 0, none⟩), .pointer (some ⟨fb, 0, none⟩), insV ⟨4, f1, f2, f3⟩] W fun e' w' => isRet e' ∧ Keep W w' ∧ ∃ ps1 outv1 callsv1, Mach w0 w' mb ps1 wb outv1 callsv1 sw SA sc fs { m with calls := { x with l := l } :: xs, end_ := 3 } := by
  have H_hx := Lib.hid hx
  have H_hu := Lib.hid hu
  have H_h0 := Lib.hid h0
  have H_h1 := Lib.hid h1
  have H_hl := Lib.hid hl
  clear hx hu h0 h1 hl
  obtain ⟨hb0, hk0, hbx⟩ := h.box (insO ⟨4, f1, f2, f3⟩)
  obtain ⟨W0, hW0⟩ : ∃ W0, W0 = W.alloc (insO ⟨4, f1, f2, f3⟩) := ⟨_, rfl⟩
  rw [← hW0] at hb0 hk0 hbx
  have H0 := Lib.hid hb0
  have K0 := Lib.hid hk0
  have BX := Lib.hid hbx
  have E0 := Lib.hid hW0
  have HM := Lib.hid hm
  clear hb0 hk0 hbx hW0 h hm
  go_enter Try.func21, Try.ntmps21
  go_wp2_with fail
  rw [show (W.alloc (.cells #[.int .i64 4, .int .i64 f1, .int .i64 f2, .int .u32 f3] 25)) = W0 from E0.out.symm]
  refine (aload_far (i := ⟨4, f1, f2, f3⟩) H0.out HM.out H_hx.out rfl H_hu.out H_h0.out H_h1.out (by have := H_hl.out; simp only; omega)).mono ?_
  rintro e' w4 ⟨he4, hk4, v4, h4⟩
  have hr4 : e' = .returned (.tuple #[]) := he4
  subst hr4
  have H4 := Lib.hid h4
  have K4 := Lib.hid (K0.out.trans hk4)
  clear hk4 h4 he4
  go_wp2_with fail
  first | go_end0 | skip
  exact ⟨rfl, K4.out, _, _, _, H4.out⟩
set_option maxHeartbeats 2000000 in
set_option maxRecDepth 100000 in
theorem do_aload_near (h : Mach w0 W mb ((fb, v) :: ps) wb outv callsv sw SA sc fs m) (hm : m.calls = x :: xs) {u : Int} {l : List Int} (hx : x.l = u :: l) (hu : word u) (h0 : 0 ≤ f2) (h1 : f2 ≤ 4096) (hl : u < f2) (ha : 0 ≤ f1) (hw : f1 + u < m.words.length) (hll : x.l.length * 4 ≤ 140737488355328) (hwl : m.words.length ≤ 1000000) :
    Calls Try.prog 21 #[.pointer (some ⟨mb, 0, none⟩), .pointer (some ⟨fb, 0, none⟩), insV ⟨4, f1, f2, f3⟩] W fun e' w' => isRet e' ∧ Keep W w' ∧ ∃ ps1 outv1 callsv1, Mach w0 w' mb ps1 wb outv1 callsv1 sw SA sc fs { m with calls := { x with l := rd m.words (f1 + u) :: l } :: xs } := by
  have H_hx := Lib.hid hx
  have H_hu := Lib.hid hu
  have H_h0 := Lib.hid h0
  have H_h1 := Lib.hid h1
  have H_hl := Lib.hid hl
  have H_ha := Lib.hid ha
  have H_hw := Lib.hid hw
  have H_hll := Lib.hid hll
  have H_hwl := Lib.hid hwl
  clear hx hu h0 h1 hl ha hw hll hwl
  obtain ⟨hb0, hk0, hbx⟩ := h.box (insO ⟨4, f1, f2, f3⟩)
  obtain ⟨W0, hW0⟩ : ∃ W0, W0 = W.alloc (insO ⟨4, f1, f2, f3⟩) := ⟨_, rfl⟩
  rw [← hW0] at hb0 hk0 hbx
  have H0 := Lib.hid hb0
  have K0 := Lib.hid hk0
  have BX := Lib.hid hbx
  have E0 := Lib.hid hW0
  have HM := Lib.hid hm
  clear hb0 hk0 hbx hW0 h hm
  go_enter Try.func21, Try.ntmps21
  go_wp2_with fail
  rw [show (W.alloc (.cells #[.int .i64 4, .int .i64 f1, .int .i64 f2, .int .u32 f3] 25)) = W0 from E0.out.symm]
  refine (aload_near (i := ⟨4, f1, f2, f3⟩) H0.out HM.out H_hx.out rfl H_hu.out H_h0.out H_h1.out H_hl.out H_ha.out H_hw.out H_hll.out H_hwl.out).mono ?_
  rintro e' w4 ⟨he4, hk4, v4, h4⟩
  have hr4 : e' = .returned (.tuple #[]) := he4
  subst hr4
  have H4 := Lib.hid h4
  have K4 := Lib.hid (K0.out.trans hk4)
  clear hk4 h4 he4
  go_wp2_with fail
  first | go_end0 | skip
  exact ⟨rfl, K4.out, _, _, _, H4.out⟩
set_option maxHeartbeats 2000000 in
set_option maxRecDepth 100000 in
theorem do_astore_far (h : Mach w0 W mb ((fb, v) :: ps) wb outv callsv sw SA sc fs m) (hm : m.calls = x :: xs) {u y : Int} {l : List Int} (hx : x.l = y :: u :: l) (hu : word u) (h0 : 0 ≤ f2) (h1 : f2 ≤ 4096) (hl : ¬ u < f2) :
    Calls Try.prog 21 #[.pointer (some ⟨mb, 0, none⟩), .pointer (some ⟨fb, 0, none⟩), insV ⟨5, f1, f2, f3⟩] W fun e' w' => isRet e' ∧ Keep W w' ∧ ∃ ps1 outv1 callsv1, Mach w0 w' mb ps1 wb outv1 callsv1 sw SA sc fs { m with calls := { x with l := l } :: xs, end_ := 3 } := by
  have H_hx := Lib.hid hx
  have H_hu := Lib.hid hu
  have H_h0 := Lib.hid h0
  have H_h1 := Lib.hid h1
  have H_hl := Lib.hid hl
  clear hx hu h0 h1 hl
  obtain ⟨hb0, hk0, hbx⟩ := h.box (insO ⟨5, f1, f2, f3⟩)
  obtain ⟨W0, hW0⟩ : ∃ W0, W0 = W.alloc (insO ⟨5, f1, f2, f3⟩) := ⟨_, rfl⟩
  rw [← hW0] at hb0 hk0 hbx
  have H0 := Lib.hid hb0
  have K0 := Lib.hid hk0
  have BX := Lib.hid hbx
  have E0 := Lib.hid hW0
  have HM := Lib.hid hm
  clear hb0 hk0 hbx hW0 h hm
  go_enter Try.func21, Try.ntmps21
  go_wp2_with fail
  rw [show (W.alloc (.cells #[.int .i64 5, .int .i64 f1, .int .i64 f2, .int .u32 f3] 25)) = W0 from E0.out.symm]
  refine (astore_far (i := ⟨5, f1, f2, f3⟩) H0.out HM.out H_hx.out rfl H_hu.out H_h0.out H_h1.out (by have := H_hl.out; simp only; omega)).mono ?_
  rintro e' w4 ⟨he4, hk4, v4, h4⟩
  have hr4 : e' = .returned (.tuple #[]) := he4
  subst hr4
  have H4 := Lib.hid h4
  have K4 := Lib.hid (K0.out.trans hk4)
  clear hk4 h4 he4
  go_wp2_with fail
  first | go_end0 | skip
  exact ⟨rfl, K4.out, _, _, _, H4.out⟩
set_option maxHeartbeats 2000000 in
set_option maxRecDepth 100000 in
theorem do_astore_near (h : Mach w0 W mb ((fb, v) :: ps) wb outv callsv sw SA sc fs m) (hm : m.calls = x :: xs) {u y : Int} {l : List Int} (hx : x.l = y :: u :: l) (hu : word u) (h0 : 0 ≤ f2) (h1 : f2 ≤ 4096) (hl : u < f2) (ha : 0 ≤ f1) (hw : f1 + u < m.words.length) (hwl : m.words.length ≤ 1000000) :
    Calls Try.prog 21 #[.pointer (some ⟨mb, 0, none⟩), .pointer (some ⟨fb, 0, none⟩), insV ⟨5, f1, f2, f3⟩] W fun e' w' => isRet e' ∧ Keep W w' ∧ ∃ ps1 outv1 callsv1, Mach w0 w' mb ps1 wb outv1 callsv1 sw SA sc fs { m with words := m.words.set (f1 + u).toNat y, calls := { x with l := l } :: xs } := by
  have H_hx := Lib.hid hx
  have H_hu := Lib.hid hu
  have H_h0 := Lib.hid h0
  have H_h1 := Lib.hid h1
  have H_hl := Lib.hid hl
  have H_ha := Lib.hid ha
  have H_hw := Lib.hid hw
  have H_hwl := Lib.hid hwl
  clear hx hu h0 h1 hl ha hw hwl
  obtain ⟨hb0, hk0, hbx⟩ := h.box (insO ⟨5, f1, f2, f3⟩)
  obtain ⟨W0, hW0⟩ : ∃ W0, W0 = W.alloc (insO ⟨5, f1, f2, f3⟩) := ⟨_, rfl⟩
  rw [← hW0] at hb0 hk0 hbx
  have H0 := Lib.hid hb0
  have K0 := Lib.hid hk0
  have BX := Lib.hid hbx
  have E0 := Lib.hid hW0
  have HM := Lib.hid hm
  clear hb0 hk0 hbx hW0 h hm
  go_enter Try.func21, Try.ntmps21
  go_wp2_with fail
  rw [show (W.alloc (.cells #[.int .i64 5, .int .i64 f1, .int .i64 f2, .int .u32 f3] 25)) = W0 from E0.out.symm]
  refine (astore_near (i := ⟨5, f1, f2, f3⟩) H0.out HM.out H_hx.out rfl H_hu.out H_h0.out H_h1.out H_hl.out H_ha.out H_hw.out H_hwl.out).mono ?_
  rintro e' w4 ⟨he4, hk4, v4, h4⟩
  have hr4 : e' = .returned (.tuple #[]) := he4
  subst hr4
  have H4 := Lib.hid h4
  have K4 := Lib.hid (K0.out.trans hk4)
  clear hk4 h4 he4
  go_wp2_with fail
  first | go_end0 | skip
  exact ⟨rfl, K4.out, _, _, _, H4.out⟩
set_option maxHeartbeats 2000000 in
set_option maxRecDepth 100000 in
theorem do_op (h : Mach w0 W mb ((fb, v) :: ps) wb outv callsv sw SA sc fs m) (hm : m.calls = x :: xs) {a b r e : Int} {l : List Int} (hx : x.l = b :: a :: l) (ha : word_Apply.f 1 f1 a b = some (r, e)) (hll : x.l.length * 4 ≤ 140737488355328) (m' : Mc) (hm' : m' = if e = 0 then { m with calls := { x with l := r :: l } :: xs } else { m with calls := { x with l := l } :: xs, end_ := 2 }) :
    Calls Try.prog 21 #[.pointer (some ⟨mb, 0, none⟩), .pointer (some ⟨fb, 0, none⟩), insV ⟨6, f1, f2, f3⟩] W fun e' w' => isRet e' ∧ Keep W w' ∧ ∃ ps1 outv1 callsv1, Mach w0 w' mb ps1 wb outv1 callsv1 sw SA sc fs m' := by
  have H_hx := Lib.hid hx
  have H_ha := Lib.hid ha
  have H_hll := Lib.hid hll
  have H_hm' := Lib.hid hm'
  clear hx ha hll hm'
  obtain ⟨hb0, hk0, hbx⟩ := h.box (insO ⟨6, f1, f2, f3⟩)
  obtain ⟨W0, hW0⟩ : ∃ W0, W0 = W.alloc (insO ⟨6, f1, f2, f3⟩) := ⟨_, rfl⟩
  rw [← hW0] at hb0 hk0 hbx
  have H0 := Lib.hid hb0
  have K0 := Lib.hid hk0
  have BX := Lib.hid hbx
  have E0 := Lib.hid hW0
  have HM := Lib.hid hm
  clear hb0 hk0 hbx hW0 h hm
  go_enter Try.func21, Try.ntmps21
  go_wp2_with fail
  rw [show (W.alloc (.cells #[.int .i64 6, .int .i64 f1, .int .i64 f2, .int .u32 f3] 25)) = W0 from E0.out.symm]
  refine (op_any (i := ⟨6, f1, f2, f3⟩) (e := e) (r := r) H0.out HM.out H_hx.out H_ha.out H_hll.out).mono ?_
  rintro e' w4 ⟨he4, hk4, v4, h4⟩
  rw [← H_hm'.out] at h4
  have hr4 : e' = .returned (.tuple #[]) := he4
  subst hr4
  have H4 := Lib.hid h4
  have K4 := Lib.hid (K0.out.trans hk4)
  clear hk4 h4 he4
  go_wp2_with fail
  first | go_end0 | skip
  exact ⟨rfl, K4.out, _, _, _, H4.out⟩
set_option maxHeartbeats 2000000 in
set_option maxRecDepth 100000 in
theorem do_get (h : Mach w0 W mb ((fb, v) :: ps) wb outv callsv sw SA sc fs m) (hm : m.calls = x :: xs) (hl : (x.l.length + 1) * 4 ≤ 140737488355328) (m' : Mc) (hm' : m' = if m.inp.size = 0 then { m with calls := { x with l := 256 :: x.l } :: xs } else { m with inp := m.inp.extract 1 m.inp.size, calls := { x with l := bt m.inp 0 :: x.l } :: xs }) :
    Calls Try.prog 21 #[.pointer (some ⟨mb, 0, none⟩), .pointer (some ⟨fb, 0, none⟩), insV ⟨12, f1, f2, f3⟩] W fun e' w' => isRet e' ∧ Keep W w' ∧ ∃ ps1 outv1 callsv1, Mach w0 w' mb ps1 wb outv1 callsv1 sw SA sc fs m' := by
  have H_hl := Lib.hid hl
  have H_hm' := Lib.hid hm'
  clear hl hm'
  obtain ⟨hb0, hk0, hbx⟩ := h.box (insO ⟨12, f1, f2, f3⟩)
  obtain ⟨W0, hW0⟩ : ∃ W0, W0 = W.alloc (insO ⟨12, f1, f2, f3⟩) := ⟨_, rfl⟩
  rw [← hW0] at hb0 hk0 hbx
  have H0 := Lib.hid hb0
  have K0 := Lib.hid hk0
  have BX := Lib.hid hbx
  have E0 := Lib.hid hW0
  have HM := Lib.hid hm
  clear hb0 hk0 hbx hW0 h hm
  go_enter Try.func21, Try.ntmps21
  go_wp2_with fail
  rw [show (W.alloc (.cells #[.int .i64 12, .int .i64 f1, .int .i64 f2, .int .u32 f3] 25)) = W0 from E0.out.symm]
  refine (get_any (i := ⟨12, f1, f2, f3⟩) H0.out HM.out rfl H_hl.out m' H_hm'.out).mono ?_
  rintro e' w4 ⟨he4, hk4, v4, h4⟩
  have hr4 : e' = .returned (.tuple #[]) := he4
  subst hr4
  have H4 := Lib.hid h4
  have K4 := Lib.hid (K0.out.trans hk4)
  clear hk4 h4 he4
  go_wp2_with fail
  first | go_end0 | skip
  exact ⟨rfl, K4.out, _, _, _, H4.out⟩
set_option maxHeartbeats 2000000 in
set_option maxRecDepth 100000 in
theorem do_put (h : Mach w0 W mb ((fb, v) :: ps) wb outv callsv sw SA sc fs m) (hm : m.calls = x :: xs) {u : Int} {l : List Int} (hx : x.l = u :: l) (hol : m.out.length ≤ 65536) (m' : Mc) (hm' : m' = if (65536 : Int) ≤ m.out.length then { m with calls := { x with l := l } :: xs, end_ := 4 } else { m with calls := { x with l := l } :: xs, out := m.out ++ [u % 256] }) :
    Calls Try.prog 21 #[.pointer (some ⟨mb, 0, none⟩), .pointer (some ⟨fb, 0, none⟩), insV ⟨13, f1, f2, f3⟩] W fun e' w' => isRet e' ∧ Keep W w' ∧ ∃ ps1 outv1 callsv1, Mach w0 w' mb ps1 wb outv1 callsv1 sw SA sc fs m' := by
  have H_hx := Lib.hid hx
  have H_hol := Lib.hid hol
  have H_hm' := Lib.hid hm'
  clear hx hol hm'
  obtain ⟨hb0, hk0, hbx⟩ := h.box (insO ⟨13, f1, f2, f3⟩)
  obtain ⟨W0, hW0⟩ : ∃ W0, W0 = W.alloc (insO ⟨13, f1, f2, f3⟩) := ⟨_, rfl⟩
  rw [← hW0] at hb0 hk0 hbx
  have H0 := Lib.hid hb0
  have K0 := Lib.hid hk0
  have BX := Lib.hid hbx
  have E0 := Lib.hid hW0
  have HM := Lib.hid hm
  clear hb0 hk0 hbx hW0 h hm
  go_enter Try.func21, Try.ntmps21
  go_wp2_with fail
  rw [show (W.alloc (.cells #[.int .i64 13, .int .i64 f1, .int .i64 f2, .int .u32 f3] 25)) = W0 from E0.out.symm]
  refine (put_any (i := ⟨13, f1, f2, f3⟩) H0.out HM.out H_hx.out rfl H_hol.out m' H_hm'.out).mono ?_
  rintro e' w4 ⟨he4, hk4, v4, o4, h4⟩
  have hr4 : e' = .returned (.tuple #[]) := he4
  subst hr4
  have H4 := Lib.hid h4
  have K4 := Lib.hid (K0.out.trans hk4)
  clear hk4 h4 he4
  go_wp2_with fail
  first | go_end0 | skip
  exact ⟨rfl, K4.out, _, _, _, H4.out⟩
set_option maxHeartbeats 2000000 in
set_option maxRecDepth 100000 in
theorem do_end (h : Mach w0 W mb ((fb, v) :: ps) wb outv callsv sw SA sc fs m) (hm : m.calls = x :: xs) (hxs : xs = []) :
    Calls Try.prog 21 #[.pointer (some ⟨mb, 0, none⟩), .pointer (some ⟨fb, 0, none⟩), insV ⟨11, f1, f2, f3⟩] W fun e' w' => isRet e' ∧ Keep W w' ∧ ∃ ps1 outv1 callsv1, Mach w0 w' mb ps1 wb outv1 callsv1 sw SA sc fs { m with calls := [], end_ := 1 } := by
  subst hxs
  obtain ⟨hb0, hk0, hbx⟩ := h.box (insO ⟨11, f1, f2, f3⟩)
  obtain ⟨W0, hW0⟩ : ∃ W0, W0 = W.alloc (insO ⟨11, f1, f2, f3⟩) := ⟨_, rfl⟩
  rw [← hW0] at hb0 hk0 hbx
  have H0 := Lib.hid hb0
  have K0 := Lib.hid hk0
  have BX := Lib.hid hbx
  have E0 := Lib.hid hW0
  have HM := Lib.hid hm
  clear hb0 hk0 hbx hW0 h hm
  go_enter Try.func21, Try.ntmps21
  go_wp2_with fail
  rw [show (W.alloc (.cells #[.int .i64 11, .int .i64 f1, .int .i64 f2, .int .u32 f3] 25)) = W0 from E0.out.symm]
  refine (back_end (x := x) H0.out HM.out).mono ?_
  rintro e' w4 ⟨he4, hk4, cv, h4⟩
  have hr4 : e' = .returned (.tuple #[]) := he4
  subst hr4
  have H4 := Lib.hid h4
  have K4 := Lib.hid (K0.out.trans hk4)
  clear hk4 h4 he4
  go_wp2_with fail
  first | go_end0 | skip
  exact ⟨rfl, K4.out, _, _, _, H4.out⟩
set_option maxHeartbeats 2000000 in
set_option maxRecDepth 100000 in
theorem do_back_no (h : Mach w0 W mb ((fb, v) :: ps) wb outv callsv sw SA sc fs m) (hm : m.calls = x :: xs) {y : Fr} {ys : List Fr} (hxs : xs = y :: ys) (hw : x.f.f3 = false) :
    Calls Try.prog 21 #[.pointer (some ⟨mb, 0, none⟩), .pointer (some ⟨fb, 0, none⟩), insV ⟨11, f1, f2, f3⟩] W fun e' w' => isRet e' ∧ Keep W w' ∧ ∃ ps1 outv1 callsv1, Mach w0 w' mb ps1 wb outv1 callsv1 sw SA sc fs { m with calls := y :: ys } := by
  subst hxs
  have H_hw := Lib.hid hw
  clear hw
  obtain ⟨hb0, hk0, hbx⟩ := h.box (insO ⟨11, f1, f2, f3⟩)
  obtain ⟨W0, hW0⟩ : ∃ W0, W0 = W.alloc (insO ⟨11, f1, f2, f3⟩) := ⟨_, rfl⟩
  rw [← hW0] at hb0 hk0 hbx
  have H0 := Lib.hid hb0
  have K0 := Lib.hid hk0
  have BX := Lib.hid hbx
  have E0 := Lib.hid hW0
  have HM := Lib.hid hm
  clear hb0 hk0 hbx hW0 h hm
  go_enter Try.func21, Try.ntmps21
  go_wp2_with fail
  rw [show (W.alloc (.cells #[.int .i64 11, .int .i64 f1, .int .i64 f2, .int .u32 f3] 25)) = W0 from E0.out.symm]
  refine (back_no H0.out HM.out H_hw.out).mono ?_
  rintro e' w4 ⟨he4, hk4, cv, h4⟩
  have hr4 : e' = .returned (.tuple #[]) := he4
  subst hr4
  have H4 := Lib.hid h4
  have K4 := Lib.hid (K0.out.trans hk4)
  clear hk4 h4 he4
  go_wp2_with fail
  first | go_end0 | skip
  exact ⟨rfl, K4.out, _, _, _, H4.out⟩
set_option maxHeartbeats 2000000 in
set_option maxRecDepth 100000 in
theorem do_back_yes (h : Mach w0 W mb ((fb, v) :: ps) wb outv callsv sw SA sc fs m) (hm : m.calls = x :: xs) {y : Fr} {ys : List Fr} {u : Int} {l : List Int} (hxs : xs = y :: ys) (hw : x.f.f3 = true) (hx : x.l = u :: l) (hl : (y.l.length + 1) * 4 ≤ 140737488355328) (hcl : ps.length ≤ 1000000) :
    Calls Try.prog 21 #[.pointer (some ⟨mb, 0, none⟩), .pointer (some ⟨fb, 0, none⟩), insV ⟨11, f1, f2, f3⟩] W fun e' w' => isRet e' ∧ Keep W w' ∧ ∃ ps1 outv1 callsv1, Mach w0 w' mb ps1 wb outv1 callsv1 sw SA sc fs { m with calls := { y with l := u :: y.l } :: ys } := by
  subst hxs
  have H_hw := Lib.hid hw
  have H_hx := Lib.hid hx
  have H_hl := Lib.hid hl
  have H_hcl := Lib.hid hcl
  clear hw hx hl hcl
  obtain ⟨hb0, hk0, hbx⟩ := h.box (insO ⟨11, f1, f2, f3⟩)
  obtain ⟨W0, hW0⟩ : ∃ W0, W0 = W.alloc (insO ⟨11, f1, f2, f3⟩) := ⟨_, rfl⟩
  rw [← hW0] at hb0 hk0 hbx
  have H0 := Lib.hid hb0
  have K0 := Lib.hid hk0
  have BX := Lib.hid hbx
  have E0 := Lib.hid hW0
  have HM := Lib.hid hm
  clear hb0 hk0 hbx hW0 h hm
  go_enter Try.func21, Try.ntmps21
  go_wp2_with fail
  rw [show (W.alloc (.cells #[.int .i64 11, .int .i64 f1, .int .i64 f2, .int .u32 f3] 25)) = W0 from E0.out.symm]
  refine (back_yes H0.out HM.out H_hw.out H_hx.out H_hl.out H_hcl.out).mono ?_
  rintro e' w4 ⟨he4, hk4, ps1, cv, hps1, h4⟩
  have hr4 : e' = .returned (.tuple #[]) := he4
  subst hr4
  have H4 := Lib.hid h4
  have K4 := Lib.hid (K0.out.trans hk4)
  clear hk4 h4 he4
  go_wp2_with fail
  first | go_end0 | skip
  exact ⟨rfl, K4.out, _, _, _, H4.out⟩
set_option maxHeartbeats 2000000 in
set_option maxRecDepth 100000 in
theorem do_jump (h : Mach w0 W mb ((fb, v) :: ps) wb outv callsv sw SA sc fs m) (hm : m.calls = x :: xs)  :
    Calls Try.prog 21 #[.pointer (some ⟨mb, 0, none⟩), .pointer (some ⟨fb, 0, none⟩), insV ⟨8, f1, f2, f3⟩] W fun e' w' => isRet e' ∧ Keep W w' ∧ ∃ ps1 outv1 callsv1, Mach w0 w' mb ps1 wb outv1 callsv1 sw SA sc fs { m with calls := { x with at_ := f1 } :: xs } := by
  obtain ⟨q5, g5⟩ := h.fcell hm
  have hlt : fb < W.heap.size := World.block_lt_of_cell? W _ q5
  have HSB := Lib.hid ((h.setAt hm f1).1.box (insO ⟨8, f1, f2, f3⟩))
  have HSK := Lib.hid (h.setAt hm f1).2
  obtain ⟨hb0, hk0, hbx⟩ := h.box (insO ⟨8, f1, f2, f3⟩)
  obtain ⟨W0, hW0⟩ : ∃ W0, W0 = W.alloc (insO ⟨8, f1, f2, f3⟩) := ⟨_, rfl⟩
  rw [← hW0] at hb0 hk0 hbx
  have H0 := Lib.hid hb0
  have K0 := Lib.hid hk0
  have BX := Lib.hid hbx
  have E0 := Lib.hid hW0
  have HM := Lib.hid hm
  clear hb0 hk0 hbx hW0 h hm
  go_enter Try.func21, Try.ntmps21
  go_wp2_with fail
  go_end0
  exact ⟨rfl, HSK.out.trans HSB.out.2.1, _, _, _, HSB.out.1⟩
set_option maxHeartbeats 2000000 in
set_option maxRecDepth 100000 in
theorem do_zero (h : Mach w0 W mb ((fb, v) :: ps) wb outv callsv sw SA sc fs m) (hm : m.calls = x :: xs) {l : List Int} (hx : x.l = 0 :: l) :
    Calls Try.prog 21 #[.pointer (some ⟨mb, 0, none⟩), .pointer (some ⟨fb, 0, none⟩), insV ⟨9, f1, f2, f3⟩] W fun e' w' => isRet e' ∧ Keep W w' ∧ ∃ ps1 outv1 callsv1, Mach w0 w' mb ps1 wb outv1 callsv1 sw SA sc fs { m with calls := { x with l := l, at_ := f1 } :: xs } := by
  have H_hx := Lib.hid hx
  clear hx
  obtain ⟨hb0, hk0, hbx⟩ := h.box (insO ⟨9, f1, f2, f3⟩)
  obtain ⟨W0, hW0⟩ : ∃ W0, W0 = W.alloc (insO ⟨9, f1, f2, f3⟩) := ⟨_, rfl⟩
  rw [← hW0] at hb0 hk0 hbx
  have H0 := Lib.hid hb0
  have K0 := Lib.hid hk0
  have BX := Lib.hid hbx
  have E0 := Lib.hid hW0
  have HM := Lib.hid hm
  clear hb0 hk0 hbx hW0 h hm
  go_enter Try.func21, Try.ntmps21
  go_wp2_with fail
  rw [show (W.alloc (.cells #[.int .i64 9, .int .i64 f1, .int .i64 f2, .int .u32 f3] 25)) = W0 from E0.out.symm]
  refine (mpop H0.out HM.out H_hx.out).mono ?_
  rintro e' w1 ⟨rfl, hk1, v1, h1⟩
  have H1 := Lib.hid h1
  have K1 := Lib.hid (K0.out.trans hk1)
  obtain ⟨_, b1, _, _⟩ := ins_cells BX.out hk1
  obtain ⟨c5, g5⟩ := h1.fcell rfl
  have HS := Lib.hid (h1.setAt rfl f1)
  clear hk1 h1
  go_wp2_with fail
  go_end0
  exact ⟨rfl, K1.out.trans HS.out.2, _, _, _, HS.out.1⟩
set_option maxHeartbeats 2000000 in
set_option maxRecDepth 100000 in
theorem do_nonzero (h : Mach w0 W mb ((fb, v) :: ps) wb outv callsv sw SA sc fs m) (hm : m.calls = x :: xs) {u : Int} {l : List Int} (hx : x.l = u :: l) (hu : u ≠ 0) :
    Calls Try.prog 21 #[.pointer (some ⟨mb, 0, none⟩), .pointer (some ⟨fb, 0, none⟩), insV ⟨9, f1, f2, f3⟩] W fun e' w' => isRet e' ∧ Keep W w' ∧ ∃ ps1 outv1 callsv1, Mach w0 w' mb ps1 wb outv1 callsv1 sw SA sc fs { m with calls := { x with l := l } :: xs } := by
  have H_hx := Lib.hid hx
  have H_hu := Lib.hid hu
  clear hx hu
  obtain ⟨hb0, hk0, hbx⟩ := h.box (insO ⟨9, f1, f2, f3⟩)
  obtain ⟨W0, hW0⟩ : ∃ W0, W0 = W.alloc (insO ⟨9, f1, f2, f3⟩) := ⟨_, rfl⟩
  rw [← hW0] at hb0 hk0 hbx
  have H0 := Lib.hid hb0
  have K0 := Lib.hid hk0
  have BX := Lib.hid hbx
  have E0 := Lib.hid hW0
  have HM := Lib.hid hm
  clear hb0 hk0 hbx hW0 h hm
  go_enter Try.func21, Try.ntmps21
  go_wp2_with fail
  rw [show (W.alloc (.cells #[.int .i64 9, .int .i64 f1, .int .i64 f2, .int .u32 f3] 25)) = W0 from E0.out.symm]
  refine (mpop H0.out HM.out H_hx.out).mono ?_
  rintro e' w1 ⟨rfl, hk1, v1, h1⟩
  have H1 := Lib.hid h1
  have K1 := Lib.hid (K0.out.trans hk1)
  obtain ⟨_, b1, _, _⟩ := ins_cells BX.out hk1
  obtain ⟨c5, g5⟩ := h1.fcell rfl
  have HS := Lib.hid (h1.setAt rfl f1)
  clear hk1 h1
  have hu0 : (u == 0) = false := by rw [beq_eq_false_iff_ne]; exact H_hu.out
  go_wp2_with fail
  go_end0
  exact ⟨rfl, K1.out, _, _, _, H1.out⟩
set_option maxHeartbeats 2000000 in
set_option maxRecDepth 100000 in
theorem do_not0 (h : Mach w0 W mb ((fb, v) :: ps) wb outv callsv sw SA sc fs m) (hm : m.calls = x :: xs) {l : List Int} (hx : x.l = 0 :: l) (hll : x.l.length * 4 ≤ 140737488355328) :
    Calls Try.prog 21 #[.pointer (some ⟨mb, 0, none⟩), .pointer (some ⟨fb, 0, none⟩), insV ⟨7, f1, f2, f3⟩] W fun e' w' => isRet e' ∧ Keep W w' ∧ ∃ ps1 outv1 callsv1, Mach w0 w' mb ps1 wb outv1 callsv1 sw SA sc fs { m with calls := { x with l := 1 :: l } :: xs } := by
  have H_hx := Lib.hid hx
  have H_hll := Lib.hid hll
  clear hx hll
  obtain ⟨hb0, hk0, hbx⟩ := h.box (insO ⟨7, f1, f2, f3⟩)
  obtain ⟨W0, hW0⟩ : ∃ W0, W0 = W.alloc (insO ⟨7, f1, f2, f3⟩) := ⟨_, rfl⟩
  rw [← hW0] at hb0 hk0 hbx
  have H0 := Lib.hid hb0
  have K0 := Lib.hid hk0
  have BX := Lib.hid hbx
  have E0 := Lib.hid hW0
  have HM := Lib.hid hm
  clear hb0 hk0 hbx hW0 h hm
  go_enter Try.func21, Try.ntmps21
  go_wp2_with fail
  rw [show (W.alloc (.cells #[.int .i64 7, .int .i64 f1, .int .i64 f2, .int .u32 f3] 25)) = W0 from E0.out.symm]
  have bD : Below W0.heap.size W0 W0.drew := below_drew (Below.refl _ _)
  have HD := Lib.hid (H0.out.later bD)
  have KD := Lib.hid (K0.out.trans (Keep.of_below bD))
  clear bD
  refine wp_region_held_drew (S := fun _ => True) (by kernel_rfl) trivial (fun hSd => ?_)
  refine wpAnyH_take (i := 0) (v := ?_) rfl (by kernel_rfl) (by kernel_rfl) (by kernel_rfl) (fun _ _ _ h => h) (Or.inl ⟨by rfl, ?_⟩) (by assumption) ?_
  rotate_left
  · (intro w hSw; (try dsimp only at hSw); go_simp; try with_reducible rfl)
  (try simp only [List.getElem_toArray, List.getElem_cons_succ, List.getElem_cons_zero, Act.put, List.setIfInBounds_toArray, List.set_cons_zero, List.set_cons_succ])
  refine wpAnyH_take (i := 1) (v := ?_) rfl (by kernel_rfl) (by kernel_rfl) (by kernel_rfl) (fun _ _ _ h => h) (Or.inl ⟨by rfl, ?_⟩) (by assumption) ?_
  rotate_left
  · (intro w hSw; (try dsimp only at hSw); go_simp; try with_reducible rfl)
  (try simp only [List.getElem_toArray, List.getElem_cons_succ, List.getElem_cons_zero, Act.put, List.setIfInBounds_toArray, List.set_cons_zero, List.set_cons_succ])
  refine wpAnyH_take (i := 2) (v := ?_) rfl (by kernel_rfl) (by kernel_rfl) (by kernel_rfl) (fun _ _ _ h => h) (Or.inl ⟨by rfl, ?_⟩) (by assumption) ?_
  rotate_left
  · (intro w hSw; (try dsimp only at hSw); go_simp; try with_reducible rfl)
  (try simp only [List.getElem_toArray, List.getElem_cons_succ, List.getElem_cons_zero, Act.put, List.setIfInBounds_toArray, List.set_cons_zero, List.set_cons_succ])
  refine wpAnyH_take (i := 3) (v := ?_) rfl (by kernel_rfl) (by kernel_rfl) (by kernel_rfl) (fun _ _ _ h => h) (Or.inl ⟨by rfl, ?_⟩) (by assumption) ?_
  rotate_left
  · (intro w hSw; (try dsimp only at hSw); go_simp; try with_reducible rfl)
  (try simp only [List.getElem_toArray, List.getElem_cons_succ, List.getElem_cons_zero, Act.put, List.setIfInBounds_toArray, List.set_cons_zero, List.set_cons_succ])
  refine wpAnyH_take (i := 4) (v := ?_) rfl (by kernel_rfl) (by kernel_rfl) (by kernel_rfl) (fun _ _ _ h => h) (Or.inl ⟨by rfl, ?_⟩) (by assumption) ?_
  rotate_left
  · (intro w hSw; (try dsimp only at hSw); go_simp; try with_reducible rfl)
  (try simp only [List.getElem_toArray, List.getElem_cons_succ, List.getElem_cons_zero, Act.put, List.setIfInBounds_toArray, List.set_cons_zero, List.set_cons_succ])
  refine wpAnyH_take (i := 5) (v := ?_) rfl (by kernel_rfl) (by kernel_rfl) (by kernel_rfl) (fun _ _ _ h => h) (Or.inl ⟨by rfl, ?_⟩) (by assumption) ?_
  rotate_left
  · (intro w hSw; (try dsimp only at hSw); go_simp; try with_reducible rfl)
  (try simp only [List.getElem_toArray, List.getElem_cons_succ, List.getElem_cons_zero, Act.put, List.setIfInBounds_toArray, List.set_cons_zero, List.set_cons_succ])
  refine wpAnyH_ready (rs := [6]) (by kernel_rfl) (by simp) ?_
  refine AllReadyH.cons rfl (fun K hK => ?_) AllReadyH.nil
  go_simp
  refine (mpop HD.out HM.out H_hx.out).mono ?_
  rintro e' w1 ⟨rfl, hk1, v1, h1⟩
  have H1 := Lib.hid h1
  have K1 := Lib.hid (KD.out.trans hk1)
  clear hk1 h1
  go_wp2_with fail
  refine hK.out _ _ trivial (fun hSe => ?_)
  clear hK K
  (try simp only [List.getElem_toArray, List.getElem_cons_succ, List.getElem_cons_zero, Act.put, List.setIfInBounds_toArray, List.set_cons_zero, List.set_cons_succ])
  refine wpAnyH_take (i := 7) (v := ?_) rfl (by kernel_rfl) (by kernel_rfl) (by kernel_rfl) (fun _ _ _ h => h) (Or.inl ⟨by rfl, ?_⟩) (by assumption) ?_
  rotate_left
  · (intro w hSw; (try dsimp only at hSw); go_simp; try with_reducible rfl)
  (try simp only [List.getElem_toArray, List.getElem_cons_succ, List.getElem_cons_zero, Act.put, List.setIfInBounds_toArray, List.set_cons_zero, List.set_cons_succ])
  refine wpAnyH_ready (rs := [8]) (by kernel_rfl) (by simp) ?_
  refine AllReadyH.cons rfl (fun K hK => ?_) AllReadyH.nil
  go_simp
  refine (stack_one.calls true 1 w1 rfl).mono ?_
  rintro e' w2 ⟨rfl, hd2⟩
  have H2 := Lib.hid (H1.out.later hd2.below)
  have K2 := Lib.hid (K1.out.trans (Keep.of_below hd2.below))
  clear hd2
  go_wp2_with fail
  refine hK.out _ _ trivial (fun hSg => ?_)
  clear hK K
  (try simp only [List.getElem_toArray, List.getElem_cons_succ, List.getElem_cons_zero, Act.put, List.setIfInBounds_toArray, List.set_cons_zero, List.set_cons_succ])
  refine wpAnyH_take (i := 9) (v := ?_) rfl (by kernel_rfl) (by kernel_rfl) (by kernel_rfl) (fun _ _ _ h => h) (Or.inl ⟨by rfl, ?_⟩) (by assumption) ?_
  rotate_left
  · (intro w hSw; (try dsimp only at hSw); go_simp; try with_reducible rfl)
  (try simp only [List.getElem_toArray, List.getElem_cons_succ, List.getElem_cons_zero, Act.put, List.setIfInBounds_toArray, List.set_cons_zero, List.set_cons_succ])
  refine wpAnyH_ready (rs := [10]) (by kernel_rfl) (by simp) ?_
  refine AllReadyH.cons rfl (fun K hK => ?_) AllReadyH.nil
  go_simp
  refine (mpush H2.out rfl 1 (by have := H_hll.out; rw [H_hx.out] at this; simpa using this)).mono ?_
  rintro e' w4 ⟨he4, hk4, v4, h4⟩
  have hr4 : e' = .returned (.tuple #[]) := he4
  subst hr4
  have H4 := Lib.hid h4
  have K4 := Lib.hid (K2.out.trans hk4)
  clear hk4 h4 he4
  go_wp2_with fail
  refine hK.out _ _ trivial (fun hSf => ?_)
  clear hK K
  (try simp only [List.getElem_toArray, List.getElem_cons_succ, List.getElem_cons_zero, Act.put, List.setIfInBounds_toArray, List.set_cons_zero, List.set_cons_succ])
  refine wpAnyH_done (by kernel_rfl) ?_ _
  go_wp2_with fail
  go_end0
  exact ⟨rfl, K4.out, _, _, _, H4.out⟩
set_option maxHeartbeats 2000000 in
set_option maxRecDepth 100000 in
theorem do_not1 (h : Mach w0 W mb ((fb, v) :: ps) wb outv callsv sw SA sc fs m) (hm : m.calls = x :: xs) {u : Int} {l : List Int} (hx : x.l = u :: l) (hu : u ≠ 0) (hll : x.l.length * 4 ≤ 140737488355328) :
    Calls Try.prog 21 #[.pointer (some ⟨mb, 0, none⟩), .pointer (some ⟨fb, 0, none⟩), insV ⟨7, f1, f2, f3⟩] W fun e' w' => isRet e' ∧ Keep W w' ∧ ∃ ps1 outv1 callsv1, Mach w0 w' mb ps1 wb outv1 callsv1 sw SA sc fs { m with calls := { x with l := 0 :: l } :: xs } := by
  have H_hx := Lib.hid hx
  have H_hu := Lib.hid hu
  have H_hll := Lib.hid hll
  clear hx hu hll
  obtain ⟨hb0, hk0, hbx⟩ := h.box (insO ⟨7, f1, f2, f3⟩)
  obtain ⟨W0, hW0⟩ : ∃ W0, W0 = W.alloc (insO ⟨7, f1, f2, f3⟩) := ⟨_, rfl⟩
  rw [← hW0] at hb0 hk0 hbx
  have H0 := Lib.hid hb0
  have K0 := Lib.hid hk0
  have BX := Lib.hid hbx
  have E0 := Lib.hid hW0
  have HM := Lib.hid hm
  clear hb0 hk0 hbx hW0 h hm
  go_enter Try.func21, Try.ntmps21
  go_wp2_with fail
  rw [show (W.alloc (.cells #[.int .i64 7, .int .i64 f1, .int .i64 f2, .int .u32 f3] 25)) = W0 from E0.out.symm]
  have bD : Below W0.heap.size W0 W0.drew := below_drew (Below.refl _ _)
  have HD := Lib.hid (H0.out.later bD)
  have KD := Lib.hid (K0.out.trans (Keep.of_below bD))
  clear bD
  have hu0 : (u == 0) = false := by rw [beq_eq_false_iff_ne]; exact H_hu.out
  refine wp_region_held_drew (S := fun _ => True) (by kernel_rfl) trivial (fun hSd => ?_)
  refine wpAnyH_take (i := 0) (v := ?_) rfl (by kernel_rfl) (by kernel_rfl) (by kernel_rfl) (fun _ _ _ h => h) (Or.inl ⟨by rfl, ?_⟩) (by assumption) ?_
  rotate_left
  · (intro w hSw; (try dsimp only at hSw); go_simp; try with_reducible rfl)
  (try simp only [List.getElem_toArray, List.getElem_cons_succ, List.getElem_cons_zero, Act.put, List.setIfInBounds_toArray, List.set_cons_zero, List.set_cons_succ])
  refine wpAnyH_take (i := 1) (v := ?_) rfl (by kernel_rfl) (by kernel_rfl) (by kernel_rfl) (fun _ _ _ h => h) (Or.inl ⟨by rfl, ?_⟩) (by assumption) ?_
  rotate_left
  · (intro w hSw; (try dsimp only at hSw); go_simp; try with_reducible rfl)
  (try simp only [List.getElem_toArray, List.getElem_cons_succ, List.getElem_cons_zero, Act.put, List.setIfInBounds_toArray, List.set_cons_zero, List.set_cons_succ])
  refine wpAnyH_take (i := 2) (v := ?_) rfl (by kernel_rfl) (by kernel_rfl) (by kernel_rfl) (fun _ _ _ h => h) (Or.inl ⟨by rfl, ?_⟩) (by assumption) ?_
  rotate_left
  · (intro w hSw; (try dsimp only at hSw); go_simp; try with_reducible rfl)
  (try simp only [List.getElem_toArray, List.getElem_cons_succ, List.getElem_cons_zero, Act.put, List.setIfInBounds_toArray, List.set_cons_zero, List.set_cons_succ])
  refine wpAnyH_take (i := 3) (v := ?_) rfl (by kernel_rfl) (by kernel_rfl) (by kernel_rfl) (fun _ _ _ h => h) (Or.inl ⟨by rfl, ?_⟩) (by assumption) ?_
  rotate_left
  · (intro w hSw; (try dsimp only at hSw); go_simp; try with_reducible rfl)
  (try simp only [List.getElem_toArray, List.getElem_cons_succ, List.getElem_cons_zero, Act.put, List.setIfInBounds_toArray, List.set_cons_zero, List.set_cons_succ])
  refine wpAnyH_take (i := 4) (v := ?_) rfl (by kernel_rfl) (by kernel_rfl) (by kernel_rfl) (fun _ _ _ h => h) (Or.inl ⟨by rfl, ?_⟩) (by assumption) ?_
  rotate_left
  · (intro w hSw; (try dsimp only at hSw); go_simp; try with_reducible rfl)
  (try simp only [List.getElem_toArray, List.getElem_cons_succ, List.getElem_cons_zero, Act.put, List.setIfInBounds_toArray, List.set_cons_zero, List.set_cons_succ])
  refine wpAnyH_take (i := 5) (v := ?_) rfl (by kernel_rfl) (by kernel_rfl) (by kernel_rfl) (fun _ _ _ h => h) (Or.inl ⟨by rfl, ?_⟩) (by assumption) ?_
  rotate_left
  · (intro w hSw; (try dsimp only at hSw); go_simp; try with_reducible rfl)
  (try simp only [List.getElem_toArray, List.getElem_cons_succ, List.getElem_cons_zero, Act.put, List.setIfInBounds_toArray, List.set_cons_zero, List.set_cons_succ])
  refine wpAnyH_ready (rs := [6]) (by kernel_rfl) (by simp) ?_
  refine AllReadyH.cons rfl (fun K hK => ?_) AllReadyH.nil
  go_simp
  refine (mpop HD.out HM.out H_hx.out).mono ?_
  rintro e' w1 ⟨rfl, hk1, v1, h1⟩
  have H1 := Lib.hid h1
  have K1 := Lib.hid (KD.out.trans hk1)
  clear hk1 h1
  go_wp2_with fail
  refine hK.out _ _ trivial (fun hSe => ?_)
  clear hK K
  (try simp only [List.getElem_toArray, List.getElem_cons_succ, List.getElem_cons_zero, Act.put, List.setIfInBounds_toArray, List.set_cons_zero, List.set_cons_succ])
  refine wpAnyH_take (i := 7) (v := ?_) rfl (by kernel_rfl) (by kernel_rfl) (by kernel_rfl) (fun _ _ _ h => h) (Or.inl ⟨by rfl, ?_⟩) (by assumption) ?_
  rotate_left
  · (intro w hSw; (try dsimp only at hSw); go_simp; try with_reducible rfl)
  (try simp only [List.getElem_toArray, List.getElem_cons_succ, List.getElem_cons_zero, Act.put, List.setIfInBounds_toArray, List.set_cons_zero, List.set_cons_succ])
  refine wpAnyH_ready (rs := [8]) (by kernel_rfl) (by simp) ?_
  refine AllReadyH.cons rfl (fun K hK => ?_) AllReadyH.nil
  go_simp
  refine (stack_one.calls false 0 w1 rfl).mono ?_
  rintro e' w2 ⟨rfl, hd2⟩
  have H2 := Lib.hid (H1.out.later hd2.below)
  have K2 := Lib.hid (K1.out.trans (Keep.of_below hd2.below))
  clear hd2
  go_wp2_with fail
  refine hK.out _ _ trivial (fun hSg => ?_)
  clear hK K
  (try simp only [List.getElem_toArray, List.getElem_cons_succ, List.getElem_cons_zero, Act.put, List.setIfInBounds_toArray, List.set_cons_zero, List.set_cons_succ])
  refine wpAnyH_take (i := 9) (v := ?_) rfl (by kernel_rfl) (by kernel_rfl) (by kernel_rfl) (fun _ _ _ h => h) (Or.inl ⟨by rfl, ?_⟩) (by assumption) ?_
  rotate_left
  · (intro w hSw; (try dsimp only at hSw); go_simp; try with_reducible rfl)
  (try simp only [List.getElem_toArray, List.getElem_cons_succ, List.getElem_cons_zero, Act.put, List.setIfInBounds_toArray, List.set_cons_zero, List.set_cons_succ])
  refine wpAnyH_ready (rs := [10]) (by kernel_rfl) (by simp) ?_
  refine AllReadyH.cons rfl (fun K hK => ?_) AllReadyH.nil
  go_simp
  refine (mpush H2.out rfl 0 (by have := H_hll.out; rw [H_hx.out] at this; simpa using this)).mono ?_
  rintro e' w4 ⟨he4, hk4, v4, h4⟩
  have hr4 : e' = .returned (.tuple #[]) := he4
  subst hr4
  have H4 := Lib.hid h4
  have K4 := Lib.hid (K2.out.trans hk4)
  clear hk4 h4 he4
  go_wp2_with fail
  refine hK.out _ _ trivial (fun hSf => ?_)
  clear hK K
  (try simp only [List.getElem_toArray, List.getElem_cons_succ, List.getElem_cons_zero, Act.put, List.setIfInBounds_toArray, List.set_cons_zero, List.set_cons_succ])
  refine wpAnyH_done (by kernel_rfl) ?_ _
  go_wp2_with fail
  go_end0
  exact ⟨rfl, K4.out, _, _, _, H4.out⟩
set_option maxHeartbeats 2000000 in
set_option maxRecDepth 100000 in
theorem do_call (h : Mach w0 W mb ((fb, v) :: ps) wb outv callsv sw SA sc fs m) (hm : m.calls = x :: xs) {args l : List Int} (hC : k28.C w0 SA fs.length fs) (hf0 : 0 ≤ f1) (hf1 : f1 < fs.length) (hp : (rd_T28 fs f1).f0 = args.length) (hx : x.l = args.reverse ++ l) (hll : x.l.length * 4 ≤ 140737488355328) (m' : Mc) (hc : callF fs f1 args { m with calls := { x with l := l } :: xs } = some m') (hcl : (((fb, v) :: ps).length + 1) * 8 ≤ 140737488355328) (hwl : m.words.length ≤ 1000000) :
    Calls Try.prog 21 #[.pointer (some ⟨mb, 0, none⟩), .pointer (some ⟨fb, 0, none⟩), insV ⟨10, f1, f2, f3⟩] W fun e' w' => isRet e' ∧ Keep W w' ∧ ∃ ps1 outv1 callsv1, Mach w0 w' mb ps1 wb outv1 callsv1 sw SA sc fs m' := by
  obtain ⟨ad, A4, c4, hSA, q0, _, _, _, _, _, _⟩ := at_T28 hC f1 hf0 hf1
  subst hSA
  rw [hp] at q0
  have HQ0 := Lib.hid q0
  clear q0 hp
  have H_hC := Lib.hid hC
  have H_hx := Lib.hid hx
  have H_hll := Lib.hid hll
  have H_hc := Lib.hid hc
  have H_hcl := Lib.hid hcl
  have H_hwl := Lib.hid hwl
  clear hC hx hll hc hcl hwl
  obtain ⟨hb0, hk0, hbx⟩ := h.box (insO ⟨10, f1, f2, f3⟩)
  obtain ⟨W0, hW0⟩ : ∃ W0, W0 = W.alloc (insO ⟨10, f1, f2, f3⟩) := ⟨_, rfl⟩
  rw [← hW0] at hb0 hk0 hbx
  have H0 := Lib.hid hb0
  have K0 := Lib.hid hk0
  have BX := Lib.hid hbx
  have E0 := Lib.hid hW0
  have HM := Lib.hid hm
  clear hb0 hk0 hbx hW0 h hm
  go_enter Try.func21, Try.ntmps21
  go_wp2_with fail
  rw [show (W.alloc (.cells #[.int .i64 10, .int .i64 f1, .int .i64 f2, .int .u32 f3] 25)) = W0 from E0.out.symm]
  have HSS := Lib.hid (show ∀ V, Keep W0 V → (∃ m' ps1 outv1 callsv1, Mach w0 V mb ps1 wb outv1 callsv1 sw (some ad) sc fs m') → (V.cell? ⟨mb, 1, none⟩ = some (.slice (some ad) fs.length sc) ∧ V.cell? ⟨W.heap.size, 1, none⟩ = some (.int .i64 f1) ∧ V.cell? (ad.add (f1.toNat * 5)) = some (.int .i64 args.length)) from fun V hk ⟨_, _, _, _, hV⟩ =>
    ⟨hV.mcell.2.1, (ins_cells BX.out hk).2.1, pw_cell_below hV.bel HQ0.out⟩)
  have bD : Below W0.heap.size W0 W0.drew := below_drew (Below.refl _ _)
  have HD := Lib.hid (H0.out.later bD)
  have KD := Lib.hid (Keep.of_below bD)
  clear bD
  refine wp_region_held_drew (S := fun w' => w'.cell? ⟨mb, 1, none⟩ = some (.slice (some ad) fs.length sc) ∧ w'.cell? ⟨W.heap.size, 1, none⟩ = some (.int .i64 f1) ∧ w'.cell? (ad.add (f1.toNat * 5)) = some (.int .i64 args.length)) (by kernel_rfl) (HSS.out _ KD.out ⟨_, _, _, _, HD.out⟩) (fun hSd => ?_)
  refine wpAnyH_take (i := 0) (v := ?_) rfl (by kernel_rfl) (by kernel_rfl) (by kernel_rfl) (fun _ _ _ h => h) (Or.inl ⟨by rfl, ?_⟩) (by assumption) ?_
  rotate_left
  · (intro w hSw; (try dsimp only at hSw); go_simp; try with_reducible rfl)
  (try simp only [List.getElem_toArray, List.getElem_cons_succ, List.getElem_cons_zero, Act.put, List.setIfInBounds_toArray, List.set_cons_zero, List.set_cons_succ])
  refine wpAnyH_take (i := 1) (v := ?_) rfl (by kernel_rfl) (by kernel_rfl) (by kernel_rfl) (fun _ _ _ h => h) (Or.inl ⟨by rfl, ?_⟩) (by assumption) ?_
  rotate_left
  · (intro w hSw; (try dsimp only at hSw); go_simp; try with_reducible rfl)
  (try simp only [List.getElem_toArray, List.getElem_cons_succ, List.getElem_cons_zero, Act.put, List.setIfInBounds_toArray, List.set_cons_zero, List.set_cons_succ])
  refine wpAnyH_take (i := 2) (v := ?_) rfl (by kernel_rfl) (by kernel_rfl) (by kernel_rfl) (fun _ _ _ h => h) (Or.inl ⟨by rfl, ?_⟩) (by assumption) ?_
  rotate_left
  · (intro w hSw; (try dsimp only at hSw); go_simp; try with_reducible rfl)
  (try simp only [List.getElem_toArray, List.getElem_cons_succ, List.getElem_cons_zero, Act.put, List.setIfInBounds_toArray, List.set_cons_zero, List.set_cons_succ])
  refine wpAnyH_take (i := 3) (v := ?_) rfl (by kernel_rfl) (by kernel_rfl) (by kernel_rfl) (fun _ _ _ h => h) (Or.inl ⟨by rfl, ?_⟩) (by assumption) ?_
  rotate_left
  · (intro w hSw; (try dsimp only at hSw); go_simp; try with_reducible rfl)
  (try simp only [List.getElem_toArray, List.getElem_cons_succ, List.getElem_cons_zero, Act.put, List.setIfInBounds_toArray, List.set_cons_zero, List.set_cons_succ])
  refine wpAnyH_take (i := 4) (v := ?_) rfl (by kernel_rfl) (by kernel_rfl) (by kernel_rfl) (fun _ _ _ h => h) (Or.inl ⟨by rfl, ?_⟩) (by assumption) ?_
  rotate_left
  · (intro w hSw; (try dsimp only at hSw); go_simp; try with_reducible rfl)
  (try simp only [List.getElem_toArray, List.getElem_cons_succ, List.getElem_cons_zero, Act.put, List.setIfInBounds_toArray, List.set_cons_zero, List.set_cons_succ])
  refine wpAnyH_take (i := 5) (v := ?_) rfl (by kernel_rfl) (by kernel_rfl) (by kernel_rfl) (fun _ _ _ h => h) (Or.inl ⟨by rfl, ?_⟩) (by assumption) ?_
  rotate_left
  · (intro w hSw; (try dsimp only at hSw); go_simp; try with_reducible rfl)
  (try simp only [List.getElem_toArray, List.getElem_cons_succ, List.getElem_cons_zero, Act.put, List.setIfInBounds_toArray, List.set_cons_zero, List.set_cons_succ])
  refine wpAnyH_take (i := 6) (v := ?_) rfl (by kernel_rfl) (by kernel_rfl) (by kernel_rfl) (fun _ _ _ h => h) (Or.inl ⟨by rfl, ?_⟩) (by assumption) ?_
  rotate_left
  · (intro w hSw; (try dsimp only at hSw); go_simp; try with_reducible rfl)
  (try simp only [List.getElem_toArray, List.getElem_cons_succ, List.getElem_cons_zero, Act.put, List.setIfInBounds_toArray, List.set_cons_zero, List.set_cons_succ])
  refine wpAnyH_take (i := 7) (v := ?_) rfl (by kernel_rfl) (by kernel_rfl) (by kernel_rfl) (fun _ _ _ h => h) (Or.inl ⟨by rfl, ?_⟩) (by assumption) ?_
  rotate_left
  · (intro w hSw; (try dsimp only at hSw); go_simp; try with_reducible rfl)
  (try simp only [List.getElem_toArray, List.getElem_cons_succ, List.getElem_cons_zero, Act.put, List.setIfInBounds_toArray, List.set_cons_zero, List.set_cons_succ])
  refine wpAnyH_take (i := 8) (v := ?_) rfl (by kernel_rfl) (by kernel_rfl) (by kernel_rfl) (fun _ _ _ h => h) (Or.inl ⟨by rfl, ?_⟩) (by assumption) ?_
  rotate_left
  · (intro w hSw; (try dsimp only at hSw); go_simp; try with_reducible rfl)
  (try simp only [List.getElem_toArray, List.getElem_cons_succ, List.getElem_cons_zero, Act.put, List.setIfInBounds_toArray, List.set_cons_zero, List.set_cons_succ])
  refine wpAnyH_take (i := 9) (v := ?_) rfl (by kernel_rfl) (by kernel_rfl) (by kernel_rfl) (fun _ _ _ h => h) (Or.inl ⟨by rfl, ?_⟩) (by assumption) ?_
  rotate_left
  · (intro w hSw; (try dsimp only at hSw); go_simp; try with_reducible rfl)
  (try simp only [List.getElem_toArray, List.getElem_cons_succ, List.getElem_cons_zero, Act.put, List.setIfInBounds_toArray, List.set_cons_zero, List.set_cons_succ])
  refine wpAnyH_take (i := 10) (v := ?_) rfl (by kernel_rfl) (by kernel_rfl) (by kernel_rfl) (fun _ _ _ h => h) (Or.inl ⟨by rfl, ?_⟩) (by assumption) ?_
  rotate_left
  · (intro w hSw; (try dsimp only at hSw); go_simp; try with_reducible rfl)
  (try simp only [List.getElem_toArray, List.getElem_cons_succ, List.getElem_cons_zero, Act.put, List.setIfInBounds_toArray, List.set_cons_zero, List.set_cons_succ])
  refine wpAnyH_take (i := 11) (v := ?_) rfl (by kernel_rfl) (by kernel_rfl) (by kernel_rfl) (fun _ _ _ h => h) (Or.inl ⟨by rfl, ?_⟩) (by assumption) ?_
  rotate_left
  · (intro w hSw; (try dsimp only at hSw); go_simp; try with_reducible rfl)
  (try simp only [List.getElem_toArray, List.getElem_cons_succ, List.getElem_cons_zero, Act.put, List.setIfInBounds_toArray, List.set_cons_zero, List.set_cons_succ])
  refine wpAnyH_take (i := 12) (v := ?_) rfl (by kernel_rfl) (by kernel_rfl) (by kernel_rfl) (fun _ _ _ h => h) (Or.inl ⟨by rfl, ?_⟩) (by assumption) ?_
  rotate_left
  · (intro w hSw; (try dsimp only at hSw); go_simp; try with_reducible rfl)
  (try simp only [List.getElem_toArray, List.getElem_cons_succ, List.getElem_cons_zero, Act.put, List.setIfInBounds_toArray, List.set_cons_zero, List.set_cons_succ])
  refine wpAnyH_take (i := 13) (v := ?_) rfl (by kernel_rfl) (by kernel_rfl) (by kernel_rfl) (fun _ _ _ h => h) (Or.inl ⟨by rfl, ?_⟩) (by assumption) ?_
  rotate_left
  · (intro w hSw; (try dsimp only at hSw); go_simp; try with_reducible rfl)
  (try simp only [List.getElem_toArray, List.getElem_cons_succ, List.getElem_cons_zero, Act.put, List.setIfInBounds_toArray, List.set_cons_zero, List.set_cons_succ])
  refine wpAnyH_take (i := 14) (v := ?_) rfl (by kernel_rfl) (by kernel_rfl) (by kernel_rfl) (fun _ _ _ h => h) (Or.inl ⟨by rfl, ?_⟩) (by assumption) ?_
  rotate_left
  · (intro w hSw; (try dsimp only at hSw); go_simp; try with_reducible rfl)
  (try simp only [List.getElem_toArray, List.getElem_cons_succ, List.getElem_cons_zero, Act.put, List.setIfInBounds_toArray, List.set_cons_zero, List.set_cons_succ])
  refine wpAnyH_take (i := 15) (v := ?_) rfl (by kernel_rfl) (by kernel_rfl) (by kernel_rfl) (fun _ _ _ h => h) (Or.inl ⟨by rfl, ?_⟩) (by assumption) ?_
  rotate_left
  · (intro w hSw; (try dsimp only at hSw); go_simp; try with_reducible rfl)
  (try simp only [List.getElem_toArray, List.getElem_cons_succ, List.getElem_cons_zero, Act.put, List.setIfInBounds_toArray, List.set_cons_zero, List.set_cons_succ])
  refine wpAnyH_ready (rs := [16]) (by kernel_rfl) (by simp) ?_
  refine AllReadyH.cons rfl (fun K hK => ?_) AllReadyH.nil
  go_simp
  refine (mtake (args := args) HD.out HM.out H_hx.out H_hll.out).mono ?_
  rintro e' w1 ⟨r, rfl, hk1, ⟨v1, h1⟩, hr⟩
  obtain ⟨rA, rc, rfl, hR⟩ := own_reads hr
  have HRA := Lib.hid (show ∀ ad', rA = some ad' → ad'.block ≠ wb from fun ad' e => by
    subst e
    have h1 := own_base hr ad'.block rfl
    have h2 := blk_lt HD.out.wblk
    have e3 : W0.drew.heap.size = W0.heap.size := rfl
    omega)
  have HR := Lib.hid hR
  have H1 := Lib.hid h1
  have K1 := Lib.hid (KD.out.trans hk1)
  clear hk1 h1 hr hR
  go_wp2_with fail
  refine hK.out _ _ (HSS.out w1 K1.out ⟨_, _, _, _, H1.out⟩) (fun hSe => ?_)
  clear hK K
  (try simp only [List.getElem_toArray, List.getElem_cons_succ, List.getElem_cons_zero, Act.put, List.setIfInBounds_toArray, List.set_cons_zero, List.set_cons_succ])
  refine wpAnyH_ready (rs := [17]) (by kernel_rfl) (by simp) ?_
  refine AllReadyH.cons rfl (fun K hK => ?_) AllReadyH.nil
  go_simp
  refine (call_any H1.out H_hC.out f1 HR.out HRA.out m' H_hc.out (by have := H_hcl.out; simpa using this) H_hwl.out).mono ?_
  rintro e' w4 ⟨he4, hk4, nb, cv, h4⟩
  have hr4 : e' = .returned (.tuple #[]) := he4
  subst hr4
  have H4 := Lib.hid h4
  have K4 := Lib.hid (K1.out.trans hk4)
  clear hk4 h4 he4
  go_wp2_with fail
  refine hK.out _ _ (HSS.out w4 K4.out ⟨_, _, _, _, H4.out⟩) (fun hSf => ?_)
  clear hK K
  (try simp only [List.getElem_toArray, List.getElem_cons_succ, List.getElem_cons_zero, Act.put, List.setIfInBounds_toArray, List.set_cons_zero, List.set_cons_succ])
  refine wpAnyH_done (by kernel_rfl) ?_ _
  go_wp2_with fail
  go_end0
  exact ⟨rfl, K0.out.trans K4.out, _, _, _, H4.out⟩
end
end Go.Proofs.Ytlngcolnjgloaaa

/- The stack machine's do is the plain doF. Conditions: rows below 2^47 bytes. -/
namespace Go.Proofs.Ytlngcolnjgloaaa
open Go.RowKit Go.Proofs.YtlngcolnjgloaaaW.PrintWords PStackRuns
set_option linter.unusedVariables false
set_option linter.unusedSimpArgs false

theorem do_any {w0 W : World} {mb wb sc fb : Nat} {ps : List (Nat × Value)} {outv callsv v : Value} {sw : Int} {SA : Option Addr} {fs : List S28} {m : Mc} {x : Fr} {xs : List Fr}
    (h : Mach w0 W mb ((fb, v) :: ps) wb outv callsv sw SA sc fs m) (hm : m.calls = x :: xs) (hC : k28.C w0 SA fs.length fs) (i : S25) (m' : Mc) (hd : doF fs i m = some m')
    (bl : ∀ y ∈ m.calls, y.l.length ≤ 1000000) (bc : m.calls.length ≤ 1000000) (bw : m.words.length ≤ 1000000) (bo : m.out.length ≤ 65536) :
    Calls Try.prog 21 #[.pointer (some ⟨mb, 0, none⟩), .pointer (some ⟨fb, 0, none⟩), insV i] W fun e' w' => isRet e' ∧ Keep W w' ∧ ∃ ps1 outv1 callsv1, Mach w0 w' mb ps1 wb outv1 callsv1 sw SA sc fs m' := by
  obtain ⟨f0, f1, f2, f3⟩ := i
  have hps : ps.length = xs.length := by
    have := Frs.len h.frs
    rw [hm] at this
    simpa using this
  have hxl : x.l.length ≤ 1000000 := bl x (by rw [hm]; simp)
  have hxc : xs.length + 1 ≤ 1000000 := by rw [hm] at bc; simpa using bc
  simp only [doF, hm] at hd
  by_cases c1 : f0 = 1
  · subst c1
    rw [if_pos rfl] at hd
    injection hd with hd
    subst hd
    exact do_push h hm (by omega)
  rw [if_neg c1] at hd
  by_cases c2 : f0 = 2
  · subst c2
    rw [if_pos rfl] at hd
    split at hd
    case isFalse => cases hd
    rename_i hc
    injection hd with hd
    subst hd
    exact do_load h hm (by omega) hc.1 hc.2
  rw [if_neg c2] at hd
  by_cases c3 : f0 = 3
  · subst c3
    rw [if_pos rfl] at hd
    cases hx : x.l with
    | nil => rw [hx] at hd; cases hd
    | cons u l =>
      rw [hx] at hd
      simp only at hd
      split at hd
      case isFalse => cases hd
      rename_i hc
      injection hd with hd
      subst hd
      exact do_store h hm hx hc.1 hc.2
  rw [if_neg c3] at hd
  by_cases c4 : f0 = 4
  · subst c4
    rw [if_pos rfl] at hd
    cases hx : x.l with
    | nil => rw [hx] at hd; cases hd
    | cons u l =>
      rw [hx] at hd
      simp only at hd
      split at hd
      case isFalse => cases hd
      rename_i hc
      split at hd
      · rename_i hu
        split at hd
        case isFalse => cases hd
        rename_i hw
        injection hd with hd
        subst hd
        exact do_aload_near h hm hx hc.1 hc.2.2.1 hc.2.2.2 hu hc.2.1 hw (by omega) bw
      · rename_i hu
        injection hd with hd
        subst hd
        exact do_aload_far h hm hx hc.1 hc.2.2.1 hc.2.2.2 hu
  rw [if_neg c4] at hd
  by_cases c5 : f0 = 5
  · subst c5
    rw [if_pos rfl] at hd
    cases hx : x.l with
    | nil => rw [hx] at hd; cases hd
    | cons y l0 =>
      cases l0 with
      | nil => rw [hx] at hd; cases hd
      | cons u l =>
        rw [hx] at hd
        simp only at hd
        split at hd
        case isFalse => cases hd
        rename_i hc
        split at hd
        · rename_i hu
          split at hd
          case isFalse => cases hd
          rename_i hw
          injection hd with hd
          subst hd
          exact do_astore_near h hm hx hc.1 hc.2.2.1 hc.2.2.2 hu hc.2.1 hw bw
        · rename_i hu
          injection hd with hd
          subst hd
          exact do_astore_far h hm hx hc.1 hc.2.2.1 hc.2.2.2 hu
  rw [if_neg c5] at hd
  by_cases c6 : f0 = 6
  · subst c6
    rw [if_pos rfl] at hd
    cases hx : x.l with
    | nil => rw [hx] at hd; cases hd
    | cons b l0 =>
      cases l0 with
      | nil => rw [hx] at hd; cases hd
      | cons a l =>
        rw [hx] at hd
        simp only at hd
        cases ha : word_Apply.f 1 f1 a b with
        | none => rw [ha] at hd; cases hd
        | some ve =>
          obtain ⟨r, e⟩ := ve
          rw [ha] at hd
          simp only at hd
          refine do_op h hm hx ha (by omega) m' ?_
          by_cases he : e = 0
          · rw [if_pos he] at hd ⊢
            injection hd with hd
            exact hd.symm
          · rw [if_neg he] at hd ⊢
            injection hd with hd
            exact hd.symm
  rw [if_neg c6] at hd
  by_cases c7 : f0 = 7
  · subst c7
    rw [if_pos rfl] at hd
    cases hx : x.l with
    | nil => rw [hx] at hd; cases hd
    | cons u l =>
      rw [hx] at hd
      simp only at hd
      injection hd with hd
      by_cases hu : u = 0
      · subst hu
        rw [if_pos rfl] at hd
        subst hd
        exact do_not0 h hm hx (by omega)
      · rw [if_neg hu] at hd
        subst hd
        exact do_not1 h hm hx hu (by omega)
  rw [if_neg c7] at hd
  by_cases c8 : f0 = 8
  · subst c8
    rw [if_pos rfl] at hd
    injection hd with hd
    subst hd
    exact do_jump h hm
  rw [if_neg c8] at hd
  by_cases c9 : f0 = 9
  · subst c9
    rw [if_pos rfl] at hd
    cases hx : x.l with
    | nil => rw [hx] at hd; cases hd
    | cons u l =>
      rw [hx] at hd
      simp only at hd
      by_cases hu : u = 0
      · subst hu
        rw [if_pos rfl] at hd
        injection hd with hd
        subst hd
        exact do_zero h hm hx
      · rw [if_neg hu] at hd
        injection hd with hd
        subst hd
        exact do_nonzero h hm hx hu
  rw [if_neg c9] at hd
  by_cases c10 : f0 = 10
  · subst c10
    rw [if_pos rfl] at hd
    split at hd
    case isFalse => cases hd
    rename_i hc
    obtain ⟨n, hn⟩ := Int.eq_ofNat_of_zero_le hc.2.2.1
    have hnl : n ≤ x.l.length := by omega
    have e1 : (rd_T28 fs f1).f0.toNat = n := by omega
    rw [e1] at hd
    refine do_call (args := (x.l.take n).reverse) (l := x.l.drop n) h hm hC hc.1 hc.2.1 ?_ ?_ (by omega) m' hd (by simp only [List.length_cons]; omega) bw
    · rw [hn, List.length_reverse, List.length_take]
      omega
    · rw [List.reverse_reverse, List.take_append_drop]
  rw [if_neg c10] at hd
  by_cases c11 : f0 = 11
  · subst c11
    rw [if_pos rfl] at hd
    cases xs with
    | nil =>
      simp only at hd
      injection hd with hd
      subst hd
      exact do_end h hm rfl
    | cons y ys =>
      simp only at hd
      by_cases hw : x.f.f3 = true
      · rw [if_pos hw] at hd
        cases hx : x.l with
        | nil => rw [hx] at hd; cases hd
        | cons u l =>
          rw [hx] at hd
          simp only at hd
          injection hd with hd
          subst hd
          have hyl : y.l.length ≤ 1000000 := bl y (by rw [hm]; simp)
          exact do_back_yes h hm rfl hw hx (by omega) (by rw [hps]; simp at hxc ⊢; omega)
      · rw [if_neg hw] at hd
        injection hd with hd
        subst hd
        exact do_back_no h hm rfl (by simpa using hw)
  rw [if_neg c11] at hd
  by_cases c12 : f0 = 12
  · subst c12
    rw [if_pos rfl] at hd
    refine do_get h hm (by omega) m' ?_
    by_cases hs : m.inp.size = 0
    · rw [if_pos hs] at hd ⊢
      injection hd with hd
      exact hd.symm
    · rw [if_neg hs] at hd ⊢
      injection hd with hd
      exact hd.symm
  rw [if_neg c12] at hd
  by_cases c13 : f0 = 13
  · subst c13
    rw [if_pos rfl] at hd
    cases hx : x.l with
    | nil => rw [hx] at hd; cases hd
    | cons u l =>
      rw [hx] at hd
      simp only at hd
      refine do_put h hm hx bo m' ?_
      by_cases hs : (65536 : Int) ≤ m.out.length
      · rw [if_pos hs] at hd ⊢
        injection hd with hd
        exact hd.symm
      · rw [if_neg hs] at hd ⊢
        injection hd with hd
        exact hd.symm
  rw [if_neg c13] at hd
  cases hd
end Go.Proofs.Ytlngcolnjgloaaa
