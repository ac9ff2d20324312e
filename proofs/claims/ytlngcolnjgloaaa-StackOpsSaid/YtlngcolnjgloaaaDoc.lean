/- The stack machine's call and back. Conditions: rows below 2^47 bytes. -/
import Derived.Test.YtlngcolnjgloaaaDob
import Derived.Lib.SliceRun
import Derived.Laws.CopyOwn
namespace Go.Proofs.Ytlngcolnjgloaaa
open Go.RowKit Go.Proofs.YtlngcolnjgloaaaW.PrintWords PStackRuns
set_option linter.unusedVariables false
set_option linter.unusedSimpArgs false

theorem setCells_heap (b : Nat) : ∀ (vs : List Value) (o : Nat) (w : World), (∀ i, i ≠ b → (w.setCells b o vs).heap[i]? = w.heap[i]?) ∧ (w.setCells b o vs).heap.size = w.heap.size ∧
    (∀ (cs : List Value) (t : TypeId), w.heap[b]? = some (.cells cs.toArray t (0, 0)) → o + vs.length ≤ cs.length → (w.setCells b o vs).heap[b]? = some (.cells (splice cs o vs).toArray t (0, 0))) ∧
    (w.setCells b o vs).os = w.os ∧ (w.setCells b o vs).tape = w.tape ∧ (w.setCells b o vs).output = w.output
  | [], o, w => by
    refine ⟨fun i _ => rfl, rfl, fun cs t h hl => ?_, rfl, rfl, rfl⟩
    simp only [splice, World.setCells, List.nil_append, List.length_nil, Nat.add_zero, List.take_append_drop]
    exact h
  | v :: vs, o, w => by
    obtain ⟨h1, h2, h3, h4, h5, h6⟩ := setCells_heap b vs (o + 1) (w.setCell ⟨b, o, none⟩ v)
    refine ⟨fun i hi => ?_, ?_, fun cs t h hl => ?_, ?_, ?_, ?_⟩
    · exact (h1 i hi).trans (Below.heap_setCell w _ v i (by exact hi))
    · exact h2.trans (by simp)
    · simp only [List.length_cons] at hl
      have hs := blk_set h o v
      rw [List.setIfInBounds_toArray] at hs
      have := h3 (cs.set o v) t hs (by simp; omega)
      show (World.setCells (w.setCell ⟨b, o, none⟩ v) b (o + 1) vs).heap[b]? = _
      rw [this]
      congr 3
      unfold splice
      have hlen : (cs.take o).length = o := by rw [List.length_take]; omega
      have e0 : cs.set o v = cs.take o ++ v :: cs.drop (o + 1) := by rw [List.set_eq_take_append_cons_drop, if_pos (by omega)]
      have e1 : (cs.set o v).take (o + 1) = cs.take o ++ [v] := by
        rw [e0, List.take_append, hlen, List.take_of_length_le (by omega), show o + 1 - o = 1 by omega]
        simp
      have e2 : (cs.set o v).drop (o + 1 + vs.length) = cs.drop (o + (vs.length + 1)) := by
        rw [e0, List.drop_append, hlen, List.drop_of_length_le (by omega), show o + 1 + vs.length - o = vs.length + 1 by omega, List.drop_succ_cons, List.drop_drop, List.nil_append]
        congr 1
        omega
      rw [e1, e2]
      simp
    · exact h4
    · exact h5
    · exact h6

section
variable {w0 W : World} {mb wb sc fb : Nat} {ps : List (Nat × Value)} {outv callsv v : Value} {sw : Int} {SA : Option Addr} {fs : List S28} {m : Mc} {x : Fr} {xs : List Fr} {i : S25}

end

/-- The slice of words that a call has. -/
theorem words_cut (wb n first slots : Nat) (h : first + slots ≤ n) : ∃ AA : Option Addr, (∀ W : World, (Instr.slice 40 (.slice (some ⟨wb, 0, none⟩) n n) (some (.int .i64 (first : Int))) (some (.int .i64 ((first : Int) + slots))) none).run Try.prog W = .ok (.slice AA slots (n - first)) W) ∧
    (0 < slots → AA = some ⟨wb, first, none⟩) ∧ ∃ o, AA = some ⟨wb, o, none⟩ := by
  obtain ⟨i0, hi0, _⟩ := Option.map_eq_some_iff.1 info22
  have hsz : i0.size = 1 := by
    have h := info22
    rw [hi0] at h
    simp at h
    exact h.2.1
  refine ⟨if n = first then some ⟨wb, 0, none⟩ else some ⟨wb, first, none⟩, fun W => ?_, fun hs => by rw [if_neg (by omega)], by split <;> exact ⟨_, rfl⟩⟩
  have he : Try.prog.elem 40 = 22 := by simp [Program.elem, Try.underlying40]
  have hu : Try.prog.underlying 40 = some (.slice (Try.prog.elem 40)) := by rw [he]; exact Try.underlying40
  rw [run_slice_lh W 40 (some ⟨wb, 0, none⟩) n n hu .i64 .i64 (first : Int) ((first : Int) + slots) (by omega) (by omega) (by omega), he]
  have e1 : ((first : Int) + slots).toNat = first + slots := by omega
  have e2 : first + slots - first = slots := by omega
  simp [sizeOf, typeInfo, hi0, hsz, sliced, Result.andThen, e1, e2, add_plain]

theorem run_clear_words (W : World) (AA : Option Addr) (wb first slots cc : Nat) (hAA : 0 < slots → AA = some ⟨wb, first, none⟩) {cs : List Value} (hb : W.heap[wb]? = some (.cells cs.toArray 22 (0, 0))) (hl : first + slots ≤ cs.length) (ty : TypeId) (hsome : ∃ o, AA = some ⟨wb, o, none⟩) :
    (Builtin.clear_ #[40] ty #[.slice AA slots cc]).run Try.prog W = .ok (.tuple #[]) (W.setCells wb first (List.replicate slots (.int .u32 0))) := by
  rcases Nat.eq_zero_or_pos slots with h0 | h0
  · subst h0
    obtain ⟨o, rfl⟩ := hsome
    have hz : ∀ w, (zeroValue 22).run Try.prog w = .ok (.int .u32 0) w := fun w => by kernel_rfl
    simp [Builtin.clear_, run_underlying Try.underlying40, hz, World.setCells, Builtin.zeroCells, storeCells]
  · obtain rfl := hAA h0
    refine Lib.run_clear_slice W 40 22 ty (.int .u32 0) Try.underlying40 (fun w => by kernel_rfl) rfl rfl wb first slots cc h0 ?_ (fun j hj => blk_frozen hb _)
    intro j hj
    rw [blk_cell hb]
    simp [List.getElem?_eq_getElem (show first + j < cs.length by omega)]

theorem nums_one (k : IntKind) (xs : List Int) : ∀ u ∈ nums k xs, u.oneCell' = true := by
  intro u hu
  simp only [nums, List.mem_map] at hu
  obtain ⟨a, _, rfl⟩ := hu
  rfl
theorem nums_splice (k : IntKind) (L : List Int) (o : Nat) (cs : List Int) : splice (nums k L) o (nums k cs) = nums k (splice L o cs) := by simp [splice, nums]

theorem copy_words (w : World) (AA A : Option Addr) (wb off dLen dCap sLen sCap : Nat) (ws cs : List Int) (hb : w.heap[wb]? = some (.cells (nums .u32 ws).toArray 22 (0, 0))) (hn : cs.length = Nat.min sLen dLen) (hAA : 0 < dLen → AA = some ⟨wb, off, none⟩) (hfit : off + cs.length ≤ ws.length)
    (hsrc : 0 < sLen → ∃ ad, A = some ad ∧ ∀ j, j < cs.length → w.cell? (ad.add j) = some (.int .u32 (cs.getD j 0))) :
    ∃ w', (∀ ty, (Builtin.copy_ #[40, 40] ty #[.slice AA dLen dCap, .slice A sLen sCap]).run Try.prog w = .ok (.int .i64 cs.length) w') ∧ (∀ i, i ≠ wb → w'.heap[i]? = w.heap[i]?) ∧ w'.heap.size = w.heap.size ∧
      w'.heap[wb]? = some (.cells (nums .u32 (splice ws off cs)).toArray 22 (0, 0)) ∧ w'.os = w.os ∧ w'.tape = w.tape ∧ w'.output = w.output := by
  rcases Nat.eq_zero_or_pos cs.length with h0 | h0
  · obtain rfl : cs = [] := List.eq_nil_of_length_eq_zero h0
    refine ⟨w, fun ty => run_copy_none w 40 40 ty 22 AA A dLen dCap sLen sCap Try.underlying40 (by kernel_rfl) (by simpa using hn.symm), fun _ _ => rfl, rfl, by simpa [splice] using hb, rfl, rfl, rfl⟩
  · have hmin : Nat.min sLen dLen ≤ sLen ∧ Nat.min sLen dLen ≤ dLen := ⟨Nat.min_le_left _ _, Nat.min_le_right _ _⟩
    obtain rfl := hAA (by omega)
    obtain ⟨ad, rfl, hs⟩ := hsrc (by omega)
    have hcell : ∀ j u, (nums .u32 cs)[j]? = some u → w.cell? (ad.add j) = some u := by
      intro j u hu
      have hj := (List.getElem?_eq_some_iff.1 hu).1
      rw [nums_length] at hj
      rw [hs j hj]
      simp only [nums, List.getElem?_map, List.getElem?_eq_getElem hj, Option.map_some] at hu
      simp only [List.getD_eq_getElem?_getD, List.getElem?_eq_getElem hj, Option.getD_some]
      exact hu
    refine ⟨w.setRow wb ((nums .u32 ws).take off ++ nums .u32 cs ++ (nums .u32 ws).drop (off + (nums .u32 cs).length)).toArray, fun ty => ?_, fun i hi => setRow_other w wb i _ hi, by simp [World.setRow], ?_, rfl, rfl, rfl⟩
    · have := run_copy_row (P := Try.prog) w 40 40 ty 22 wb off dLen dCap ad sLen sCap (nums .u32 ws).toArray 22 (nums .u32 cs) Try.underlying40 (by kernel_rfl) hb (by rw [nums_length]; exact hn) hcell (by simpa [nums_length] using hfit) (nums_one _ _)
      simpa [goInt, nums_length] using this
    · rw [setRow_heap w wb _ _ 22 _ hb]
      congr 3
      rw [← nums_splice]
      simp [splice, nums_length]

section
variable {w0 W : World} {mb wb sc fb : Nat} {ps : List (Nat × Value)} {outv callsv v : Value} {sw : Int} {SA : Option Addr} {fs : List S28} {m : Mc} {x : Fr} {xs : List Fr} {i : S25}

theorem mpushf (h : Mach w0 W mb ps wb outv callsv sw SA sc fs m) (g : S28) {A4 : Option Addr} {c4 : Nat} (hfb : W.heap[fb]? = some (.cells #[.int .i64 g.f0, .int .i64 g.f1, .int .i64 g.f2, .bool g.f3, .slice A4 g.f4.length c4, .int .i64 0, .slice none 0 0] 67 (0, 0)))
    (hge : w0.heap.size ≤ fb) (hnew : ∀ p ∈ ps, p.1 ≠ fb) (l4 : g.f4.length ≤ c4) (g4 : k25.C w0 A4 g.f4.length g.f4) (hcl : (ps.length + 1) * 8 ≤ 140737488355328) :
    Calls Try.prog 31 #[.pointer (some ⟨mb, 5, none⟩), .pointer (some ⟨fb, 0, none⟩)] W fun e w' => isRet e ∧ Keep W w' ∧ ∃ callsv1, Mach w0 w' mb ((fb, .slice none 0 0) :: ps) wb outv callsv1 sw SA sc fs { m with calls := ⟨g, 0, []⟩ :: m.calls } := by
  refine (push_frame (w0 := w0) (base := w0.heap.size) (l := ps.reverse.map fun p => Value.pointer (some ⟨p.1, 0, none⟩)) fb h.mblk (o := 5) rfl h.gem (by decide) (by simpa using h.calls) h.bel h.bel.size (by simpa using hcl)).mono ?_
  rintro e w' ⟨he, v1, hr⟩
  have hS : ∀ i, i < W.heap.size → i ≠ mb → some i ≠ callsv.ownBlock → w'.heap[i]? = W.heap[i]? := hr.same
  refine ⟨he, hr.keep h.mblk h.calls (.inl rfl) (.inr (.inl rfl)), v1, ?_⟩
  refine h.callset hr.bel hr.size hS v1 _ _ (by simpa using hr.blk) (by simpa using hr.own) ⟨?_, by simp [Value.ownBlock], fun q hq => ⟨hnew q hq, .inl rfl⟩, h.frs_stay hS⟩
  refine ⟨⟨A4, c4, l4, g4, ?_⟩, own_nil _ _ _ _, hge⟩
  rw [hS fb (blk_lt hfb) (ty_ne hfb h.mblk (by decide)) (own_ne h.calls hfb (by decide))]
  exact hfb

set_option maxHeartbeats 2000000 in
set_option maxRecDepth 100000 in
theorem call_any (h : Mach w0 W mb ps wb outv callsv sw SA sc fs m) (hC : k28.C w0 SA fs.length fs) (f : Int) {A : Option Addr} {c : Nat} {args : List Int} (hr : ReadsInt W .u32 A args.length args) (hA : ∀ ad, A = some ad → ad.block ≠ wb) (m' : Mc) (hc : callF fs f args m = some m')
    (hcl : (ps.length + 1) * 8 ≤ 140737488355328) (hwl : m.words.length ≤ 1000000) :
    Calls Try.prog 20 #[.pointer (some ⟨mb, 0, none⟩), .int .i64 f, .slice A args.length c] W fun e w' => isRet e ∧ Keep W w' ∧ ∃ fb callsv1, Mach w0 w' mb ((fb, .slice none 0 0) :: ps) wb outv callsv1 sw SA sc fs m' := by
  unfold callF at hc
  split at hc
  case isFalse => cases hc
  rename_i hcond
  obtain ⟨hf0, hf1, hF0, hS0, hFS⟩ := hcond
  injection hc with hc
  obtain ⟨g, hg⟩ : ∃ g, g = rd_T28 fs f := ⟨_, rfl⟩
  obtain ⟨ad, A4, c4, hSA, q0, q1, q2, q3, q4, l4, g4⟩ := at_T28 hC f hf0 hf1
  subst hSA
  rw [← hg] at hc hF0 hS0 hFS q0 q1 q2 q3 q4 l4 g4
  obtain ⟨first, hfirst⟩ := Int.eq_ofNat_of_zero_le hF0
  obtain ⟨slots, hslots⟩ := Int.eq_ofNat_of_zero_le hS0
  have q0 := pw_cell_below h.bel q0
  have q1 := pw_cell_below h.bel q1
  have q2 := pw_cell_below h.bel q2
  have q3 := pw_cell_below h.bel q3
  have q4 := pw_cell_below h.bel q4
  rw [hslots] at q1
  rw [hfirst] at q2
  have hcut : first + slots ≤ m.words.length := by omega
  obtain ⟨AA, hsl, hAA, hAo⟩ := words_cut wb m.words.length first slots hcut
  obtain ⟨_, d1, _, d3, _, d5, _, f6⟩ := h.mcell
  have hlt : mb < W.heap.size := blk_lt h.mblk
  have wfs : IntKind.i64.wrap ((first : Int) + slots) = (first : Int) + slots := IntWalk.i64_in _ (by omega)
  obtain ⟨B0, hB0⟩ : ∃ B0 : Obj, B0 = .cells #[.int .i64 g.f0, .int .i64 slots, .int .i64 first, .bool g.f3, .slice A4 g.f4.length c4] 28 := ⟨_, rfl⟩
  obtain ⟨hb0, hk0, hbx⟩ := h.box B0
  obtain ⟨W0, hW0⟩ : ∃ W0, W0 = W.alloc B0 := ⟨_, rfl⟩
  rw [← hW0] at hb0 hk0 hbx
  have H0 := Lib.hid hb0
  have K0 := Lib.hid hk0
  have BX := Lib.hid hbx
  have E0 := Lib.hid hW0
  have EB := Lib.hid hB0
  have HG := Lib.hid (And.intro hfirst hslots)
  have HC := Lib.hid hc
  have HR := Lib.hid hr
  have HA := Lib.hid hA
  have HQ := Lib.hid (And.intro hAA hAo)
  have HG4 := Lib.hid (And.intro l4 g4)
  have HCUT := Lib.hid hcut
  have HB1 := Lib.hid (show Below W.heap.size W W0 from by rw [hW0]; exact (Below.refl _ _).alloc (Nat.le_refl _) _)
  clear hc hr hA hb0 hk0 hbx hW0 hB0 hfirst hslots h hAA hAo l4 g4 hcut hC hg hF0 hS0 hFS
  go_enter Try.func20, Try.ntmps20
  go_wp2_with fail
  rw [← EB.out, ← E0.out]
  have hbx : W0.heap[W.heap.size]? = some (.cells #[.int .i64 g.f0, .int .i64 slots, .int .i64 first, .bool g.f3, .slice A4 g.f4.length c4] 28 (0, 0)) := by rw [← EB.out]; exact BX.out
  have b1 : W0.cell? ⟨W.heap.size, 1, none⟩ = some (.int .i64 slots) := by rw [blk_cell hbx]; rfl
  have b2 : W0.cell? ⟨W.heap.size, 2, none⟩ = some (.int .i64 first) := by rw [blk_cell hbx]; rfl
  obtain ⟨_, _, _, e3, _, _, _, _⟩ := H0.out.mcell
  have HBX := Lib.hid hbx
  clear q0 q1 q2 q3 q4 d1 d3 d5 f6 hbx
  go_quiet (fail)
  generalize hq_ : World.drewN W0 _ = wq
  have hBq : Below W0.heap.size W0 wq := by rw [← hq_]; exact pw_below_drewN (Below.refl _ _) _
  have Hq := Lib.hid (H0.out.later hBq)
  have HZQ := Lib.hid hBq.size
  have Kq := Lib.hid (K0.out.trans (Keep.of_below hBq))
  have HBXq := Lib.hid (blk_below HBX.out hBq)
  have HB2 := Lib.hid (below_then HB1.out HB1.out.size hBq)
  have hclr := run_clear_words wq AA wb first slots (m.words.length - first) HQ.out.1 Hq.out.wblk (by rw [nums_length]; exact HCUT.out)
  have hclr := fun ty => hclr ty HQ.out.2
  obtain ⟨W2, hW2⟩ : ∃ W2, W2 = wq.setCells wb first (List.replicate slots (.int .u32 0)) := ⟨_, rfl⟩
  rw [← hW2] at hclr
  obtain ⟨s1, s2, s3, s4, s5, s6⟩ := setCells_heap wb (List.replicate slots (.int .u32 0)) first wq
  rw [← hW2] at s1 s2 s3 s4 s5 s6
  have hz : List.replicate slots (Value.int .u32 0) = nums .u32 (List.replicate slots 0) := by simp [nums]
  have hwb2 := s3 (nums .u32 m.words) 22 Hq.out.wblk (by rw [nums_length, List.length_replicate]; exact HCUT.out)
  rw [hz, nums_splice] at hwb2
  have hB2 : Below w0.heap.size w0 W2 := ⟨s4.trans Hq.out.bel.os, s5.trans Hq.out.bel.tape, s6.trans Hq.out.bel.output, by rw [s2]; exact Hq.out.bel.size, fun i hi => (s1 i (by have := Hq.out.gew; omega)).trans (Hq.out.bel.block i hi)⟩
  have hls : (splice m.words first (List.replicate slots 0)).length = m.words.length := length_splice _ _ _ (by rw [List.length_replicate]; exact HCUT.out)
  have H2 := Lib.hid (Hq.out.wset hB2 (fun i _ hi => s1 i hi) (splice m.words first (List.replicate slots 0)) hls hwb2)
  have hbx2 : W2.heap[W.heap.size]? = some (.cells #[.int .i64 g.f0, .int .i64 slots, .int .i64 first, .bool g.f3, .slice A4 g.f4.length c4] 28 (0, 0)) := (s1 _ (ty_ne HBXq.out Hq.out.wblk (by decide))).trans HBXq.out
  have HBX2 := Lib.hid hbx2
  have K02 := Lib.hid (show W0.heap.size ≤ W2.heap.size from by rw [s2]; exact HZQ.out)
  have K2 := Lib.hid (show Keep W W2 from Kq.out.trans ⟨by rw [s2]; exact Nat.le_refl _, fun j cs t ht hb => by rw [s1 j (ty_ne hb Hq.out.wblk (by rcases ht with rfl | rfl | rfl | rfl <;> decide))]; exact hb⟩)
  have HRA := Lib.hid (show 0 < args.length → ∃ ad, A = some ad ∧ ∀ j, j < args.length → W2.cell? (ad.add j) = some (.int .u32 (args.getD j 0)) from fun hp => by
    obtain ⟨ad, e, hcell⟩ := HR.out.2.2 hp
    refine ⟨ad, e, fun j hj => ?_⟩
    have h1 := pw_cell_below HB2.out (hcell j hj)
    have hne : (ad.add j).block ≠ wb := by
      have := HA.out ad e
      unfold Addr.add
      split <;> exact this
    rw [World.cell?_of_block (s1 _ hne)]
    exact h1)
  have hcl0 : (args.take slots).length = Nat.min args.length slots := by rw [List.length_take]; exact Nat.min_comm _ _
  have hcl1 : (args.take slots).length ≤ slots := by rw [List.length_take]; exact Nat.min_le_left _ _
  obtain ⟨W4, hcp, s41, s42, s43, s44, s45, s46⟩ := copy_words W2 AA A wb first slots (m.words.length - first) args.length c (splice m.words first (List.replicate slots 0)) (args.take slots) H2.out.wblk hcl0 HQ.out.1 (by rw [hls]; have := HCUT.out; omega)
    (fun hp => by
      obtain ⟨ad, e, hcell⟩ := HRA.out hp
      refine ⟨ad, e, fun j hj => ?_⟩
      rw [List.length_take] at hj
      rw [hcell j (by omega)]
      simp only [List.getD_eq_getElem?_getD, List.getElem?_take]
      rw [if_pos (by omega)])
  have hB4 : Below w0.heap.size w0 W4 := ⟨s44.trans H2.out.bel.os, s45.trans H2.out.bel.tape, s46.trans H2.out.bel.output, by rw [s42]; exact H2.out.bel.size, fun i hi => (s41 i (by have := H2.out.gew; omega)).trans (H2.out.bel.block i hi)⟩
  have hls4 : (layF m.words first slots args).length = m.words.length := by
    unfold layF
    rw [length_splice _ _ _ (by rw [hls]; have := HCUT.out; omega)]
    exact hls
  have H4 := Lib.hid (H2.out.wset hB4 (fun i _ hi => s41 i hi) (layF m.words first slots args) (by rw [hls4]; exact hls.symm) s43)
  have HBX4 := Lib.hid ((s41 _ (ty_ne HBX2.out H2.out.wblk (by decide))).trans HBX2.out)
  have K4 := Lib.hid (show Keep W W4 from K2.out.trans ⟨by rw [s42]; exact Nat.le_refl _, fun j cs t ht hb => by rw [s41 j (ty_ne hb H2.out.wblk (by rcases ht with rfl | rfl | rfl | rfl <;> decide))]; exact hb⟩)
  have HSZ := Lib.hid (show W.heap.size + 1 ≤ W4.heap.size from by rw [s42]; exact Nat.le_trans (Nat.le_of_eq (by rw [E0.out]; simp)) K02.out)
  clear hq_ hBq e3 b1 b2 hsl wfs s1 s2 s3 s4 s5 s6 hz hwb2 hB2 hbx2 hW2 s41 s42 s43 s44 s45 s46 hB4 hls hls4 hcl0 hcl1
  go_wp2_with fail
  obtain ⟨F, hF⟩ : ∃ F : Obj, F = .cells #[.int .i64 g.f0, .int .i64 slots, .int .i64 first, .bool g.f3, .slice A4 g.f4.length c4, .int .i64 0, .slice none 0 0] 67 := ⟨_, rfl⟩
  have HF := Lib.hid hF
  clear hF
  have HSS := Lib.hid (show ∀ V : World, V.heap[W.heap.size]? = some (.cells #[.int .i64 g.f0, .int .i64 slots, .int .i64 first, .bool g.f3, .slice A4 g.f4.length c4] 28 (0, 0)) → (V.cell? ⟨W.heap.size, 0, none⟩ = some (.int .i64 g.f0) ∧ V.cell? ⟨W.heap.size, 1, none⟩ = some (.int .i64 slots) ∧ V.cell? ⟨W.heap.size, 2, none⟩ = some (.int .i64 first) ∧ V.cell? ⟨W.heap.size, 3, none⟩ = some (.bool g.f3) ∧ V.cell? ⟨W.heap.size, 4, none⟩ = some (.slice A4 g.f4.length c4)) from fun V hV => by
    refine ⟨?_, ?_, ?_, ?_, ?_⟩ <;> (rw [blk_cell hV]; rfl))
  refine wp_region_held_drew (S := fun w' => w'.cell? ⟨W.heap.size, 0, none⟩ = some (.int .i64 g.f0) ∧ w'.cell? ⟨W.heap.size, 1, none⟩ = some (.int .i64 slots) ∧ w'.cell? ⟨W.heap.size, 2, none⟩ = some (.int .i64 first) ∧ w'.cell? ⟨W.heap.size, 3, none⟩ = some (.bool g.f3) ∧ w'.cell? ⟨W.heap.size, 4, none⟩ = some (.slice A4 g.f4.length c4)) (by kernel_rfl) (HSS.out _ (blk_drew HBX4.out)) (fun hSd => ?_)
  refine wpAnyH_take (i := 0) (v := ?_) rfl (by kernel_rfl) (by kernel_rfl) (by kernel_rfl) (fun _ _ _ h => h) (Or.inl ⟨by rfl, ?_⟩) (by assumption) ?_
  rotate_left
  · (intro w hSw; (try dsimp only at hSw); go_simp; try with_reducible rfl)
  (try simp only [List.getElem_toArray, List.getElem_cons_succ, List.getElem_cons_zero, Act.put, List.setIfInBounds_toArray, List.set_cons_zero, List.set_cons_succ])
  refine wpAnyH_take (i := 1) (v := ?_) rfl (by kernel_rfl) (by kernel_rfl) (by kernel_rfl) (fun _ _ _ h => h) (Or.inl ⟨by rfl, ?_⟩) (by assumption) ?_
  rotate_left
  · (intro w hSw; (try dsimp only at hSw); go_simp; try with_reducible rfl)
  (try simp only [List.getElem_toArray, List.getElem_cons_succ, List.getElem_cons_zero, Act.put, List.setIfInBounds_toArray, List.set_cons_zero, List.set_cons_succ])
  refine wpAnyH_take (i := 2) (v := ?_) rfl (by kernel_rfl) (by kernel_rfl) (by kernel_rfl) (fun _ _ _ h => h) (Or.inl ⟨by rfl, ?_⟩) (by assumption) ?_
  rotate_left
  · (intro w hSw; (try dsimp only at hSw); go_simp; try with_reducible rfl)
  (try simp only [List.getElem_toArray, List.getElem_cons_succ, List.getElem_cons_zero, Act.put, List.setIfInBounds_toArray, List.set_cons_zero, List.set_cons_succ])
  refine wpAnyH_take (i := 3) (v := ?_) rfl (by kernel_rfl) (by kernel_rfl) (by kernel_rfl) (fun _ _ _ h => h) (Or.inl ⟨by rfl, ?_⟩) (by assumption) ?_
  rotate_left
  · (intro w hSw; (try dsimp only at hSw); go_simp; try with_reducible rfl)
  (try simp only [List.getElem_toArray, List.getElem_cons_succ, List.getElem_cons_zero, Act.put, List.setIfInBounds_toArray, List.set_cons_zero, List.set_cons_succ])
  refine wpAnyH_take (i := 4) (v := ?_) rfl (by kernel_rfl) (by kernel_rfl) (by kernel_rfl) (fun _ _ _ h => h) (Or.inl ⟨by rfl, ?_⟩) (by assumption) ?_
  rotate_left
  · (intro w hSw; (try dsimp only at hSw); go_simp; try with_reducible rfl)
  (try simp only [List.getElem_toArray, List.getElem_cons_succ, List.getElem_cons_zero, Act.put, List.setIfInBounds_toArray, List.set_cons_zero, List.set_cons_succ])
  refine wpAnyH_ready (rs := [5]) (by kernel_rfl) (by simp) ?_
  refine AllReadyH.cons rfl (fun K hK => ?_) AllReadyH.nil
  go_simp
  rw [← HF.out]
  obtain ⟨V, hV⟩ : ∃ V, V = (W4.alloc F).drew := ⟨_, rfl⟩
  rw [← hV]
  have bV : Below W4.heap.size W4 V := by rw [hV]; exact below_drew ((Below.refl _ _).alloc (Nat.le_refl _) _)
  have hfV : V.heap[W4.heap.size]? = some F := by rw [hV]; exact blk_new W4 F
  have HV := Lib.hid (H4.out.later bV)
  have KV := Lib.hid (K4.out.trans (Keep.of_below bV))
  have HBV := Lib.hid (blk_below HBX4.out bV)
  have HFV := Lib.hid (show V.heap[W4.heap.size]? = some (.cells #[.int .i64 g.f0, .int .i64 g.f1, .int .i64 g.f2, .bool g.f3, .slice A4 g.f4.length c4, .int .i64 0, .slice none 0 0] 67 (0, 0)) from by rw [hfV, HF.out, HG.out.1, HG.out.2])
  have HNEW := Lib.hid (show ∀ p ∈ ps, p.1 ≠ W4.heap.size from fun p hp => by
    obtain ⟨⟨cs, hq⟩, _, _⟩ := Frs.typed H4.out.frs p hp
    have := blk_lt hq
    omega)
  refine hK.out _ _ (HSS.out V HBV.out) (fun hSe => ?_)
  clear hK K hV bV hfV
  (try simp only [List.getElem_toArray, List.getElem_cons_succ, List.getElem_cons_zero, Act.put, List.setIfInBounds_toArray, List.set_cons_zero, List.set_cons_succ])
  refine wpAnyH_ready (rs := [6]) (by kernel_rfl) (by simp) ?_
  refine AllReadyH.cons rfl (fun K hK => ?_) AllReadyH.nil
  go_simp
  refine (mpushf HV.out g HFV.out H4.out.bel.size HNEW.out HG4.out.1 HG4.out.2 hcl).mono ?_
  rintro e' w5 ⟨he5, hk5, cv, h5⟩
  have hr5 : e' = .returned (.tuple #[]) := he5
  subst hr5
  have H5 := Lib.hid h5
  have K5 := Lib.hid (KV.out.trans hk5)
  have HB5 := Lib.hid (hk5.keep _ _ _ (.inr (.inl rfl)) HBV.out)
  clear hk5 h5 he5
  go_wp2_with fail
  refine hK.out _ _ (HSS.out w5 HB5.out) (fun hSf => ?_)
  clear hK K
  (try simp only [List.getElem_toArray, List.getElem_cons_succ, List.getElem_cons_zero, Act.put, List.setIfInBounds_toArray, List.set_cons_zero, List.set_cons_succ])
  refine wpAnyH_done (by kernel_rfl) ?_ _
  go_wp2_with fail
  go_end0
  refine ⟨rfl, K5.out, W4.heap.size, cv, ?_⟩
  have h5 := H5.out
  have hm' := HC.out
  rw [HG.out.1, HG.out.2] at hm'
  rw [← hm']
  exact h5
end
end Go.Proofs.Ytlngcolnjgloaaa
