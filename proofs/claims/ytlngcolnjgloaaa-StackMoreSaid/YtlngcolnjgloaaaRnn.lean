/- stack.Run is the plain runF. Conditions: at most 1000000 words, 100000 rounds. -/
import Derived.Test.YtlngcolnjgloaaaDoa
namespace Go.Proofs.Ytlngcolnjgloaaa
open Go.RowKit Go.Proofs.YtlngcolnjgloaaaW.PrintWords PStackRuns
set_option linter.unusedVariables false
set_option linter.unusedSimpArgs false

/-! ### Bounds of a run -/
structure Bnd (st : Nat) (sw : Nat) (m : Mc) : Prop where
  cl : m.calls.length ≤ st + 1
  ll : ∀ y ∈ m.calls, y.l.length ≤ st
  wl : m.words.length = sw
  ol : m.out.length ≤ 65536

theorem layF_len (ws : List Int) (first slots : Nat) (args : List Int) (h : first + slots ≤ ws.length) : (layF ws first slots args).length = ws.length := by
  unfold layF
  have h1 : (splice ws first (List.replicate slots 0)).length = ws.length := length_splice _ _ _ (by rw [List.length_replicate]; exact h)
  rw [length_splice _ _ _ (by rw [h1, List.length_take]; omega)]
  exact h1

theorem callF_bnd {fs : List S28} {f : Int} {args : List Int} {m m' : Mc} (h : callF fs f args m = some m') : m'.calls = ⟨rd_T28 fs f, 0, []⟩ :: m.calls ∧ m'.words.length = m.words.length ∧ m'.out = m.out ∧ m'.inp = m.inp ∧ m'.end_ = m.end_ := by
  unfold callF at h
  split at h
  · rename_i hc
    injection h with h
    subst h
    exact ⟨rfl, layF_len _ _ _ _ (by omega), rfl, rfl, rfl⟩
  · cases h

theorem doF_bnd {fs : List S28} {i : S25} {m m' : Mc} {st sw : Nat} (hd : doF fs i m = some m') (hb : Bnd st sw m) : Bnd (st + 1) sw m' := by
  obtain ⟨f0, f1, f2, f3⟩ := i
  unfold doF at hd
  obtain ⟨b1, b2, b3, b4⟩ := hb
  cases hm : m.calls with
  | nil => rw [hm] at hd; cases hd
  | cons x xs =>
    rw [hm] at hd b1 b2
    simp only at hd
    have bx : x.l.length ≤ st := b2 x (by simp)
    have bxs : ∀ y ∈ xs, y.l.length ≤ st + 1 := fun y hy => by have := b2 y (by simp [hy]); omega
    simp only [List.length_cons] at b1
    have key : ∀ (x' : Fr) (w' : List Int) (o' : List Int) (inp' : ByteArray) (e' : Int), x'.l.length ≤ st + 1 → w'.length = sw → o'.length ≤ 65536 → Bnd (st + 1) sw { words := w', inp := inp', out := o', calls := x' :: xs, end_ := e' } := by
      intro x' w' o' inp' e' h1 h2 h3
      exact ⟨by simp only [List.length_cons]; omega, fun y hy => by rcases List.mem_cons.1 hy with rfl | hy; exact h1; exact bxs y hy, h2, h3⟩
    by_cases c1 : f0 = 1
    · rw [if_pos c1] at hd; injection hd with hd; subst hd
      exact key _ _ _ _ _ (by simp only [List.length_cons]; omega) b3 b4
    rw [if_neg c1] at hd
    by_cases c2 : f0 = 2
    · rw [if_pos c2] at hd; split at hd <;> cases hd
      exact key _ _ _ _ _ (by simp only [List.length_cons]; omega) b3 b4
    rw [if_neg c2] at hd
    by_cases c3 : f0 = 3
    · rw [if_pos c3] at hd
      split at hd
      · rename_i u l hx
        rw [hx] at bx
        simp only [List.length_cons] at bx
        split at hd <;> cases hd
        exact key _ _ _ _ _ (by simp only; omega) (by simpa using b3) b4
      · cases hd
    rw [if_neg c3] at hd
    by_cases c4 : f0 = 4
    · rw [if_pos c4] at hd
      split at hd
      · rename_i u l hx
        rw [hx] at bx
        simp only [List.length_cons] at bx
        split at hd
        · split at hd
          · split at hd <;> cases hd
            exact key _ _ _ _ _ (by simp only [List.length_cons]; omega) b3 b4
          · cases hd
            exact key _ _ _ _ _ (by simp only; omega) b3 b4
        · cases hd
      · cases hd
    rw [if_neg c4] at hd
    by_cases c5 : f0 = 5
    · rw [if_pos c5] at hd
      split at hd
      · rename_i y u l hx
        rw [hx] at bx
        simp only [List.length_cons] at bx
        split at hd
        · split at hd
          · split at hd <;> cases hd
            exact key _ _ _ _ _ (by simp only; omega) (by simpa using b3) b4
          · cases hd
            exact key _ _ _ _ _ (by simp only; omega) b3 b4
        · cases hd
      · cases hd
    rw [if_neg c5] at hd
    by_cases c6 : f0 = 6
    · rw [if_pos c6] at hd
      split at hd
      · rename_i y u l hx
        rw [hx] at bx
        simp only [List.length_cons] at bx
        split at hd
        · split at hd <;> cases hd
          · exact key _ _ _ _ _ (by simp only [List.length_cons]; omega) b3 b4
          · exact key _ _ _ _ _ (by simp only; omega) b3 b4
        · cases hd
      · cases hd
    rw [if_neg c6] at hd
    by_cases c7 : f0 = 7
    · rw [if_pos c7] at hd
      split at hd
      · rename_i u l hx
        rw [hx] at bx
        simp only [List.length_cons] at bx
        cases hd
        exact key _ _ _ _ _ (by simp only [List.length_cons]; omega) b3 b4
      · cases hd
    rw [if_neg c7] at hd
    by_cases c8 : f0 = 8
    · rw [if_pos c8] at hd; cases hd
      exact key _ _ _ _ _ (by simp only; omega) b3 b4
    rw [if_neg c8] at hd
    by_cases c9 : f0 = 9
    · rw [if_pos c9] at hd
      split at hd
      · rename_i u l hx
        rw [hx] at bx
        simp only [List.length_cons] at bx
        split at hd <;> cases hd <;> exact key _ _ _ _ _ (by simp only; omega) b3 b4
      · cases hd
    rw [if_neg c9] at hd
    by_cases c10 : f0 = 10
    · rw [if_pos c10] at hd
      split at hd
      · obtain ⟨h1, h2, h3, _, _⟩ := callF_bnd hd
        refine ⟨?_, ?_, by rw [h2]; exact b3, by rw [h3]; exact b4⟩
        · rw [h1]; simp only [List.length_cons]; omega
        · rw [h1]
          intro y hy
          rcases List.mem_cons.1 hy with rfl | hy
          · simp
          · rcases List.mem_cons.1 hy with rfl | hy
            · simp only [List.length_drop]; omega
            · exact bxs y hy
      · cases hd
    rw [if_neg c10] at hd
    by_cases c11 : f0 = 11
    · rw [if_pos c11] at hd
      split at hd
      · cases hd
        exact ⟨by simp, by simp, b3, b4⟩
      · rename_i y ys
        simp only [List.length_cons] at b1
        have by_ : y.l.length ≤ st := b2 y (by simp)
        split at hd
        · split at hd
          · cases hd
            refine ⟨by simp only [List.length_cons]; omega, fun z hz => ?_, b3, b4⟩
            rcases List.mem_cons.1 hz with rfl | hz
            · simp only [List.length_cons]; omega
            · exact bxs z (by simp [hz])
          · cases hd
        · cases hd
          exact ⟨by simp only [List.length_cons]; omega, bxs, b3, b4⟩
    rw [if_neg c11] at hd
    by_cases c12 : f0 = 12
    · rw [if_pos c12] at hd
      split at hd <;> cases hd <;> exact key _ _ _ _ _ (by simp only [List.length_cons]; omega) b3 b4
    rw [if_neg c12] at hd
    by_cases c13 : f0 = 13
    · rw [if_pos c13] at hd
      split at hd
      · rename_i u l hx
        rw [hx] at bx
        simp only [List.length_cons] at bx
        split at hd <;> cases hd
        · exact key _ _ _ _ _ (by simp only; omega) b3 b4
        · exact key _ _ _ _ _ (by simp only; omega) b3 (by simp only [List.length_append, List.length_singleton]; omega)
      · cases hd
    rw [if_neg c13] at hd
    cases hd

theorem stepF_bnd {fs : List S28} {m m' : Mc} {st sw : Nat} (hd : stepF fs m = some m') (hb : Bnd st sw m) : Bnd (st + 1) sw m' := by
  unfold stepF at hd
  cases hm : m.calls with
  | nil => rw [hm] at hd; cases hd
  | cons x xs =>
    rw [hm] at hd
    simp only at hd
    split at hd
    · refine doF_bnd hd ?_
      obtain ⟨b1, b2, b3, b4⟩ := hb
      rw [hm] at b1 b2
      exact ⟨by simpa using b1, fun y hy => by rcases List.mem_cons.1 hy with rfl | hy; exact b2 x (by simp); exact b2 y (by simp [hy]), b3, b4⟩
    · cases hd

def RunRel (W : World) (mb wb n : Nat) (SA : Option Addr) (sc : Nat) (fs : List S28) (fuel : Int) (r : Int × List Int × Nat) (k j : Nat) (mm : Mc) (V : World) : Prop :=
  Ok W mb wb n SA sc fs mm V ∧ V.heap[W.heap.size + 1]? = some (.cells #[.int .i64 0, .string ⟨#[]⟩, .int .i64 0] 33 (0, 0)) ∧ Bnd j n mm ∧ loopF fs fuel k j mm = some r
theorem made_nums (n : Nat) : madeCells #[Value.int .u32 0] n = (nums .u32 (List.replicate n 0)).toArray := by
  apply Array.ext
  · simp [madeCells, nums]
  · intro i h1 h2
    have h0 : i % 1 = 0 := Nat.mod_one i
    simp [madeCells, nums, h0]

set_option maxHeartbeats 4000000 in
set_option maxRecDepth 100000 in
theorem run_any (W : World) (n : Nat) (SA : Option Addr) (sc : Nat) (fs : List S28) (hC : k28.C W SA fs.length fs) (hf1 : 0 < fs.length) (inp : ByteArray) (fuel : Int) (K0 : Nat) (hK : K0 ≤ 100000) (e : Int) (out : List Int) (st : Nat) (hr : runF n fs inp fuel K0 = some (e, out, st)) (hn : n ≤ 1000000) :
    Calls Try.prog 10 #[.agg #[.int .i64 n, .slice SA fs.length sc], .string inp, .int .i64 fuel] W fun e' w' => e' = .returned (.agg #[.int .i64 e, .string (strOfNums out), .int .i64 st]) ∧ Below W.heap.size W w' := by
  have hmk : ∀ V : World, (Instr.makeSlice 40 (.int .i64 (n : Int)) (.int .i64 (n : Int))).run Try.prog V = .ok (.slice (some ⟨V.heap.size, 0, none⟩) n n) (V.alloc (.cells (madeCells #[.int .u32 0] n) 22)) := fun V => by
    exact run_make_row' 40 22 (.int .u32 0) 4 Try.underlying40 info22 rfl .i64 .i64 n (by omega) (by omega) V
  have hCm : fs.length ≤ 9223372036854775807 := Kd.C_max hC
  obtain ⟨N, hN⟩ : ∃ N, N = fs.length := ⟨_, rfl⟩
  rw [← hN] at hf1 hCm
  have HNN := Lib.hid hN
  have HC := Lib.hid hC
  unfold runF at hr
  obtain ⟨m0, hm0, hl0⟩ := Option.bind_eq_some_iff.1 hr
  have HM0 := Lib.hid hm0
  have HL0 := Lib.hid hl0
  obtain ⟨B0, hB0⟩ : ∃ B0 : Obj, B0 = .cells #[.int .i64 n, .slice SA N sc] 31 := ⟨_, rfl⟩
  obtain ⟨Z0, hZ0⟩ : ∃ Z0 : Obj, Z0 = .cells #[.int .i64 0, .string ⟨#[]⟩, .int .i64 0] 33 := ⟨_, rfl⟩
  have EB := Lib.hid hB0
  have EZ := Lib.hid hZ0
  obtain ⟨W0, hW0⟩ : ∃ W0, W0 = (W.alloc B0).alloc Z0 := ⟨_, rfl⟩
  have E0 := Lib.hid hW0
  have wN : IntKind.i64.wrap ((N : Int) - 1) = (N : Int) - 1 := IntWalk.i64_in _ (by omega)
  clear hC hr hm0 hl0 hB0 hZ0 hW0
  rw [← hN]
  clear hN
  go_enter Try.func10, Try.ntmps10
  go_wp2_with fail
  go_step3
  go_wp2_with fail
  rw [← EB.out, ← EZ.out, ← E0.out]
  have hGB : W0.heap[W.heap.size]? = some (.cells #[.int .i64 n, .slice SA N sc] 31 (0, 0)) := by
    rw [E0.out, EB.out]
    exact blk_alloc (blk_new W _) _
  have hGZ : W0.heap[W.heap.size + 1]? = some (.cells #[.int .i64 0, .string ⟨#[]⟩, .int .i64 0] 33 (0, 0)) := by
    rw [E0.out, EZ.out]
    have := blk_new (W.alloc B0) (.cells #[.int .i64 0, .string ⟨#[]⟩, .int .i64 0] 33)
    simpa using this
  have hB0 : Below W.heap.size W W0 := by rw [E0.out]; exact ((Below.refl _ _).alloc (Nat.le_refl _) _).alloc (by simp) _
  have HGB := Lib.hid hGB
  have HGZ := Lib.hid hGZ
  have HB0 := Lib.hid hB0
  have HSS := Lib.hid (show ∀ V, Below W0.heap.size W0 V → (V.cell? ⟨W.heap.size, 0, none⟩ = some (.int .i64 n) ∧ V.cell? ⟨W.heap.size, 1, none⟩ = some (.slice SA N sc)) from fun V hV => by
    have h := blk_below hGB hV
    refine ⟨?_, ?_⟩ <;> (rw [blk_cell h]; rfl))
  clear hGB hGZ hB0
  refine wp_region_held_drew (S := fun w' => w'.cell? ⟨W.heap.size, 0, none⟩ = some (.int .i64 n) ∧ w'.cell? ⟨W.heap.size, 1, none⟩ = some (.slice SA N sc)) (by kernel_rfl) (HSS.out _ (below_drew (Below.refl _ _))) (fun hSd => ?_)
  refine wpAnyH_take (i := 0) (v := ?_) rfl (by kernel_rfl) (by kernel_rfl) (by kernel_rfl) (fun _ _ _ h => h) (Or.inl ⟨by rfl, ?_⟩) (by assumption) ?_
  rotate_left
  · (intro w hSw; (try dsimp only at hSw); go_simp; try with_reducible rfl)
  (try simp only [List.getElem_toArray, List.getElem_cons_succ, List.getElem_cons_zero, Act.put, List.setIfInBounds_toArray, List.set_cons_zero, List.set_cons_succ])
  refine wpAnyH_take (i := 1) (v := ?_) rfl (by kernel_rfl) (by kernel_rfl) (by kernel_rfl) (fun _ _ _ h => h) (Or.inl ⟨by rfl, ?_⟩) (by assumption) ?_
  rotate_left
  · (intro w hSw; (try dsimp only at hSw); go_simp; try with_reducible rfl)
  (try simp only [List.getElem_toArray, List.getElem_cons_succ, List.getElem_cons_zero, Act.put, List.setIfInBounds_toArray, List.set_cons_zero, List.set_cons_succ])
  refine wpAnyH_take (i := 2) (v := ?_) rfl (by kernel_rfl) (by kernel_rfl) (by kernel_rfl) (fun _ _ _ h => h) (Or.inl ⟨by rfl, ?_⟩) (by assumption) ?_
  rotate_left
  · (intro w hSw; (try dsimp only at hSw); go_simp; try with_reducible rfl)
  (try simp only [List.getElem_toArray, List.getElem_cons_succ, List.getElem_cons_zero, Act.put, List.setIfInBounds_toArray, List.set_cons_zero, List.set_cons_succ])
  refine wpAnyH_take (i := 3) (v := ?_) rfl (by kernel_rfl) (by kernel_rfl) (by kernel_rfl) (fun _ _ _ h => h) (Or.inl ⟨by rfl, ?_⟩) (by assumption) ?_
  rotate_left
  · (intro w hSw; (try dsimp only at hSw); go_simp; try with_reducible rfl)
  (try simp only [List.getElem_toArray, List.getElem_cons_succ, List.getElem_cons_zero, Act.put, List.setIfInBounds_toArray, List.set_cons_zero, List.set_cons_succ])
  refine wpAnyH_ready (rs := [4]) (by kernel_rfl) (by simp) ?_
  refine AllReadyH.cons rfl (fun K hK => ?_) AllReadyH.nil
  go_simp
  obtain ⟨W1, hW1⟩ : ∃ W1, W1 = (W0.alloc (.cells (madeCells #[.int .u32 0] n) 22)).drew := ⟨_, rfl⟩
  rw [← hW1]
  have hB1 : Below W0.heap.size W0 W1 := by rw [hW1]; exact below_drew ((Below.refl _ _).alloc (Nat.le_refl _) _)
  have HW1 := Lib.hid (show W1.heap[W0.heap.size]? = some (.cells (madeCells #[.int .u32 0] n) 22 (0, 0)) from by rw [hW1]; exact blk_new W0 _)
  have HB1 := Lib.hid hB1
  refine hK.out _ _ (HSS.out W1 hB1) (fun hSe => ?_)
  clear hK K hW1 hB1
  (try simp only [List.getElem_toArray, List.getElem_cons_succ, List.getElem_cons_zero, Act.put, List.setIfInBounds_toArray, List.set_cons_zero, List.set_cons_succ])
  refine wpAnyH_take (i := 5) (v := ?_) rfl (by kernel_rfl) (by kernel_rfl) (by kernel_rfl) (fun _ _ _ h => h) (Or.inl ⟨by rfl, ?_⟩) (by assumption) ?_
  rotate_left
  · (intro w hSw; (try dsimp only at hSw); go_simp; try with_reducible rfl)
  (try simp only [List.getElem_toArray, List.getElem_cons_succ, List.getElem_cons_zero, Act.put, List.setIfInBounds_toArray, List.set_cons_zero, List.set_cons_succ])
  refine wpAnyH_ready (rs := [6]) (by kernel_rfl) (by simp) ?_
  refine AllReadyH.cons rfl (fun K hK => ?_) AllReadyH.nil
  go_simp
  obtain ⟨W2, hW2⟩ : ∃ W2, W2 = W1.alloc (.cells #[.int .i64 n, .slice SA N sc, .string inp, .slice (some ⟨W0.heap.size, 0, none⟩) n n, .slice none 0 0, .slice none 0 0, .int .i64 0] 61) := ⟨_, rfl⟩
  rw [← hW2]
  have hB2 : Below W1.heap.size W1 W2 := by rw [hW2]; exact (Below.refl _ _).alloc (Nat.le_refl _) _
  have HW2 := Lib.hid (show W2.heap[W1.heap.size]? = some (.cells #[.int .i64 n, .slice SA N sc, .string inp, .slice (some ⟨W0.heap.size, 0, none⟩) n n, .slice none 0 0, .slice none 0 0, .int .i64 0] 61 (0, 0)) from by rw [hW2]; exact blk_new W1 _)
  have HB12 := Lib.hid hB2
  have HB2 := Lib.hid (below_then HB1.out HB1.out.size hB2)
  refine hK.out _ _ (HSS.out W2 HB2.out) (fun hSf => ?_)
  clear hK K hW2 hB2
  (try simp only [List.getElem_toArray, List.getElem_cons_succ, List.getElem_cons_zero, Act.put, List.setIfInBounds_toArray, List.set_cons_zero, List.set_cons_succ])
  refine wpAnyH_take (i := 7) (v := ?_) rfl (by kernel_rfl) (by kernel_rfl) (by kernel_rfl) (fun _ _ _ h => h) (Or.inl ⟨by rfl, ?_⟩) (by assumption) ?_
  rotate_left
  · (intro w hSw; (try dsimp only at hSw); go_simp; try with_reducible rfl)
  (try simp only [List.getElem_toArray, List.getElem_cons_succ, List.getElem_cons_zero, Act.put, List.setIfInBounds_toArray, List.set_cons_zero, List.set_cons_succ])
  refine wpAnyH_done (by kernel_rfl) ?_ _
  have HBW2 := Lib.hid (below_then HB0.out HB0.out.size HB2.out)
  have HM2 := Lib.hid (show Mach W W2 W1.heap.size [] W0.heap.size (.slice none 0 0) (.slice none 0 0) n SA sc fs ⟨List.replicate n 0, inp, [], [], 0⟩ from by
    have e1 : madeCells #[Value.int .u32 0] n = (nums .u32 (List.replicate n 0)).toArray := by
      rw [made_nums]
    refine ⟨HBW2.out, by have := HB0.out.size; have := HB1.out.size; omega, HB0.out.size, ?_, ?_, own_nil _ _ _ _, own_nil _ _ _ _, trivial⟩
    · have := HW2.out
      rw [HNN.out] at this
      simpa using this
    · have := blk_below HW1.out HB12.out
      rw [e1] at this
      exact this)
  go_wp2_with fail
  have hnil : ReadsInt W2 .u32 none ([] : List Int).length [] := ⟨rfl, by decide, fun h => absurd h (by decide)⟩
  have hc0 := HM0.out
  rw [← HNN.out] at hc0
  have h0e := callF_bnd hc0
  have HE0 := Lib.hid h0e
  refine (call_any (c := 0) HM2.out HC.out ((N : Int) - 1) hnil (fun ad e => by cases e) m0 hc0 (by decide) (by simp only [List.length_replicate]; exact hn)).mono ?_
  rintro e' w3 ⟨he3, hk3, nb, cv, h3⟩
  have hr3 : e' = .returned (.tuple #[]) := he3
  subst hr3
  have H3 := Lib.hid h3
  have K3 := Lib.hid hk3
  have HBN := Lib.hid (show Bnd 0 n m0 from by
    obtain ⟨h1, h2, h3, _, _⟩ := HE0.out
    refine ⟨by rw [h1]; simp, ?_, by rw [h2]; simp, by rw [h3]; simp⟩
    rw [h1]
    intro y hy
    simp only [List.mem_singleton] at hy
    rw [hy]
    exact Nat.le_refl 0)
  have HX0 := Lib.hid (show w3.heap[W.heap.size + 1]? = some (.cells #[.int .i64 0, .string ⟨#[]⟩, .int .i64 0] 33 (0, 0)) from hk3.keep _ _ _ (.inr (.inr (.inr rfl))) (blk_below HGZ.out HB2.out))
  clear hk3 h3 he3 hnil hc0 h0e HSS HGB HM2 HW2 HB12 HW1 wN hmk hSd hSe hSf
  go_wp2_with fail
  go_step3
  go_wp2_with fail
  obtain ⟨mb, hmb⟩ : ∃ mb, mb = W1.heap.size := ⟨_, rfl⟩
  obtain ⟨wb, hwb⟩ : ∃ wb, wb = W0.heap.size := ⟨_, rfl⟩
  rw [← hmb, ← hwb]
  have HRL := Lib.hid (show RunRel W mb wb n SA sc fs fuel (e, out, st) K0 0 m0 w3 from ⟨⟨_, _, _, by rw [hmb, hwb]; exact H3.out⟩, HX0.out, HBN.out, HL0.out⟩)
  clear hmb hwb H3 K3 HX0 HBN HL0 HE0 HBW2 HB2 HB1 HM0 E0 EB EZ HGZ HB0
  go_loopg [8] K0 (fun k v8 ws => ∃ (j : Nat) (mm : Mc), j + k ≤ K0 ∧ v8 = .int .i64 j ∧ RunRel W mb wb n SA sc fs fuel (e, out, st) k j mm ws)
  case atStart => exact ⟨0, m0, by omega, rfl, HRL.out⟩
  case round =>
    obtain ⟨j, mm, hj, rfl, hR⟩ := hrel
    obtain ⟨⟨ps, outv, callsv, hM⟩, hX, hBd, hlp⟩ := hR
    cases gk with
    | zero => cases hlp
    | succ k =>
      have HMc := Lib.hid hM
      have HXX := Lib.hid hX
      obtain ⟨_, _, _, _, c4, c5, c6, f6⟩ := hM.mcell
      have g6 := f6 6
      simp only [loopF] at hlp
      by_cases hend : mm.end_ = 0
      · rw [if_neg (by simp [hend])] at hlp
        rw [hend] at c6
        by_cases hfu : fuel ≤ j
        · rw [if_pos hfu] at hlp
          injection hlp with hlp
          have HLP := Lib.hid hlp
          have HS5 := Lib.hid (hM.setEnd 5)
          have hd1 : decide (fuel ≤ (j : Int)) = true := decide_eq_true hfu
          clear hlp hend hM hX f6 HRL
          go_wp2_with fail
          obtain ⟨V5, hV5⟩ : ∃ V5, V5 = wr.setCell ⟨mb, 6, none⟩ (.int .i64 5) := ⟨_, rfl⟩
          have HM5 := Lib.hid (show Mach W V5 mb ps wb outv callsv n SA sc fs { mm with end_ := 5 } from by rw [hV5]; exact HS5.out.1)
          have HX5 := Lib.hid (show V5.heap[W.heap.size + 1]? = some (.cells #[.int .i64 0, .string ⟨#[]⟩, .int .i64 0] 33 (0, 0)) from by rw [hV5]; exact HS5.out.2.keep _ _ _ (.inr (.inr (.inr rfl))) HXX.out)
          rw [← hV5]
          clear hV5
          obtain ⟨W3, hW3⟩ : ∃ W3 : World, W3 = { V5 with drawn := V5.drawn + 1 } := ⟨_, rfl⟩
          have hB3 : Below V5.heap.size V5 W3 := by rw [hW3]; exact below_drew (Below.refl _ _)
          have H3 := Lib.hid (HM5.out.later hB3)
          have hx3 := blk_below HX5.out hB3
          have x0 : W3.cell? ⟨W.heap.size + 1, 0, none⟩ = some (.int .i64 0) := by rw [blk_cell hx3]; rfl
          have x1 : W3.cell? ⟨W.heap.size + 1, 1, none⟩ = some (.string ⟨#[]⟩) := by rw [blk_cell hx3]; rfl
          have x2 : W3.cell? ⟨W.heap.size + 1, 2, none⟩ = some (.int .i64 0) := by rw [blk_cell hx3]; rfl
          have xf : ∀ q, W3.frozen? ⟨W.heap.size + 1, q, none⟩ = false := fun q => blk_frozen hx3 q
          have xf0 := xf 0
          have xf1 := xf 1
          have xf2 := xf 2
          refine wp_region_still_tail 11 (by kernel_rfl) (by kernel_rfl) ?_
          rw [← hW3]
          obtain ⟨_, _, _, _, d4, _, d6, _⟩ := H3.out.mcell
          have hcv := own_string (P := Try.prog) (src := 46) (dst := 9) (e := 5) Try.underlying46 Try.underlying5 Try.underlying9 H3.out.out
          have HB9 := Lib.hid (H3.out.bel)
          have HX3 := Lib.hid hx3
          clear hW3 hB3 xf hx3
          simp only [List.take_succ_cons, List.take_zero, List.drop_succ_cons, List.drop_zero]
          repeat still_step
          refine wpStill_nil ?_
          clear hcv d4 d6
          go_wp2_with fail
          obtain ⟨VF, hVF⟩ : ∃ VF, VF = ((W3.setCell ⟨W.heap.size + 1, 0, none⟩ (.int .i64 5)).setCell ⟨W.heap.size + 1, 1, none⟩ (.string (strOfNums mm.out))).setCell ⟨W.heap.size + 1, 2, none⟩ (.int .i64 j) := ⟨_, rfl⟩
          have hb1 : VF.heap[W.heap.size + 1]? = some (.cells #[.int .i64 5, .string (strOfNums mm.out), .int .i64 j] 33 (0, 0)) := by
            rw [hVF]
            have h := blk_set (blk_set (blk_set HX3.out 0 (.int .i64 5)) 1 (.string (strOfNums mm.out))) 2 (.int .i64 j)
            simpa using h
          have y0 : VF.cell? ⟨W.heap.size + 1, 0, none⟩ = some (.int .i64 5) := by rw [blk_cell hb1]; rfl
          have y1 : VF.cell? ⟨W.heap.size + 1, 1, none⟩ = some (.string (strOfNums mm.out)) := by rw [blk_cell hb1]; rfl
          have y2 : VF.cell? ⟨W.heap.size + 1, 2, none⟩ = some (.int .i64 j) := by rw [blk_cell hb1]; rfl
          have hBF : Below W.heap.size W VF := by
            rw [hVF]
            exact ((HB9.out.setCell (p := ⟨W.heap.size + 1, 0, none⟩) (by simp) _).setCell (p := ⟨W.heap.size + 1, 1, none⟩) (by simp) _).setCell (p := ⟨W.heap.size + 1, 2, none⟩) (by simp) _
          rw [← hVF]
          clear hVF hb1 x0 x1 x2 xf0 xf1 xf2
          try rw [Exit.noGoto_ret]
          refine bodyPost_ret (v := .agg #[.int .i64 5, .string (strOfNums mm.out), .int .i64 j]) (by simp [results, Try.results10, go_sem, y0, y1, y2]) rfl ⟨?_, hBF⟩
          have h := HLP.out; simp only [Prod.mk.injEq] at h; obtain ⟨h1, h2, h3⟩ := h; subst h1 h2 h3; rfl
        · rw [if_neg hfu] at hlp
          obtain ⟨mm1, hst, hlp1⟩ := Option.bind_eq_some_iff.1 hlp
          have HB1' := Lib.hid (stepF_bnd hst hBd)
          unfold stepF at hst
          cases hcl : mm.calls with
          | nil => rw [hcl] at hst; cases hst
          | cons x xs =>
            rw [hcl] at hst
            simp only at hst
            split at hst
            case isFalse => cases hst
            rename_i hat
            obtain ⟨p, qs, hps⟩ : ∃ p qs, ps = p :: qs := by
              have := Frs.len hM.frs
              rw [hcl] at this
              cases ps with
              | nil => simp at this
              | cons p qs => exact ⟨p, qs, rfl⟩
            subst hps
            obtain ⟨fb, v⟩ := p
            obtain ⟨gg, cap, hcv, hcap, hlast⟩ := hM.last
            subst hcv
            obtain ⟨q, hq⟩ : ∃ q, q = qs.length := ⟨_, rfl⟩
            have hql : q ≤ 1000000 := by
              have h1 := Frs.len hM.frs
              have h2 := hBd.cl
              simp only [List.length_cons] at h1
              omega
            rw [← hq] at hcap hlast c5
            obtain ⟨A, cc, hcc, hcC, hfb⟩ := (hM.top_at hcl).blk
            obtain ⟨cad, hA, i0, i1, i2, i3⟩ := at_T25 hcC x.at_ hat.1 hat.2
            subst hA
            have hcm := Kd.C_max hcC
            have HSS := Lib.hid (show ∀ V, V.heap[fb]? = wr.heap[fb]? → Below W.heap.size W V → (V.cell? ⟨fb, 4, none⟩ = some (.slice (some cad) x.f.f4.length cc) ∧ V.cell? ⟨fb, 5, none⟩ = some (.int .i64 x.at_) ∧ V.cell? (cad.add (x.at_.toNat * 4)) = some (.int .i64 (rd_T25 x.f.f4 x.at_).f0) ∧ V.cell? ⟨(cad.add (x.at_.toNat * 4)).block, (cad.add (x.at_.toNat * 4)).off + 1, none⟩ = some (.int .i64 (rd_T25 x.f.f4 x.at_).f1) ∧ V.cell? ⟨(cad.add (x.at_.toNat * 4)).block, (cad.add (x.at_.toNat * 4)).off + 2, none⟩ = some (.int .i64 (rd_T25 x.f.f4 x.at_).f2) ∧ V.cell? ⟨(cad.add (x.at_.toNat * 4)).block, (cad.add (x.at_.toNat * 4)).off + 3, none⟩ = some (.int .u32 (rd_T25 x.f.f4 x.at_).f3)) from fun V hV hB => by
              have hfV := hV.trans hfb
              exact ⟨by rw [blk_cell hfV]; rfl, by rw [blk_cell hfV]; rfl, pw_cell_below hB i0, pw_cell_below hB i1, pw_cell_below hB i2, pw_cell_below hB i3⟩)
            have HST := Lib.hid hst
            have HLP := Lib.hid hlp1
            have HCL := Lib.hid hcl
            have HQ := Lib.hid hq
            have hd1 : decide (fuel ≤ (j : Int)) = false := decide_eq_false hfu
            have hd2 : (j : Int) < fuel := by omega
            obtain ⟨at0, at1⟩ := hat
            have at2 : x.at_ < 9223372036854775807 := by omega
            have z0 : (0 : Int) ≤ q := by omega
            have z1 : (q : Int) < q + 1 := by omega
            have z2 : q + 1 ≤ cap := hcap
            have wq : IntKind.i64.wrap (q : Int) = q := IntWalk.i64_in _ (by omega)
            have HBd := Lib.hid hBd
            have HFB := Lib.hid hfb
            have hj2 : (j : Int) ≤ 100000 := by omega
            clear hlp hst hend hM hX f6 HRL hlp1 hcl hq hql i0 i1 i2 i3 hfb hcC hcc hcap hBd hfu hcm g6
            go_wp2_with fail
            go_quiet (fail)
            go_wp2_with fail
            generalize hq_ : World.drewN wr _ = w8
            have hB8 : Below wr.heap.size wr w8 := by rw [← hq_]; exact pw_below_drewN (Below.refl _ _) _
            have HM8 := Lib.hid (HMc.out.later hB8)
            have HX8 := Lib.hid (blk_below HXX.out hB8)
            have HF8 := Lib.hid (show w8.heap[fb]? = wr.heap[fb]? from hB8.block _ (blk_lt HFB.out))
            have HZ8 := Lib.hid (show fb < w8.heap.size from Nat.lt_of_lt_of_le (blk_lt HFB.out) hB8.size)
            clear hq_ hB8 c4 c5 c6 hlast
            obtain ⟨i, hi⟩ : ∃ i, i = rd_T25 x.f.f4 x.at_ := ⟨_, rfl⟩
            have HI := Lib.hid hi
            rw [← hi] at HSS
            clear hi
            refine wp_region_held_drew (S := fun w' => w'.cell? ⟨fb, 4, none⟩ = some (.slice (some cad) x.f.f4.length cc) ∧ w'.cell? ⟨fb, 5, none⟩ = some (.int .i64 x.at_) ∧ w'.cell? (cad.add (x.at_.toNat * 4)) = some (.int .i64 i.f0) ∧ w'.cell? ⟨(cad.add (x.at_.toNat * 4)).block, (cad.add (x.at_.toNat * 4)).off + 1, none⟩ = some (.int .i64 i.f1) ∧ w'.cell? ⟨(cad.add (x.at_.toNat * 4)).block, (cad.add (x.at_.toNat * 4)).off + 2, none⟩ = some (.int .i64 i.f2) ∧ w'.cell? ⟨(cad.add (x.at_.toNat * 4)).block, (cad.add (x.at_.toNat * 4)).off + 3, none⟩ = some (.int .u32 i.f3)) (by kernel_rfl) (HSS.out _ HF8.out (below_drew HM8.out.bel)) (fun hSd => ?_)
            refine wpAnyH_take (i := 0) (v := ?_) rfl (by kernel_rfl) (by kernel_rfl) (by kernel_rfl) (fun _ _ _ h => h) (Or.inl ⟨by rfl, ?_⟩) (by assumption) ?_
            rotate_left
            · (intro w hSw; (try dsimp only at hSw); go_simp; try with_reducible rfl)
            (try simp only [List.getElem_toArray, List.getElem_cons_succ, List.getElem_cons_zero, Act.put, List.setIfInBounds_toArray, List.set_cons_zero, List.set_cons_succ])
            refine wpAnyH_take (i := 1) (v := ?_) rfl (by kernel_rfl) (by kernel_rfl) (by kernel_rfl) (fun _ _ _ h => h) (Or.inl ⟨by rfl, ?_⟩) (by assumption) ?_
            rotate_left
            · (intro w hSw; (try dsimp only at hSw); go_simp; try with_reducible rfl)
            (try simp only [List.getElem_toArray, List.getElem_cons_succ, List.getElem_cons_zero, Act.put, List.setIfInBounds_toArray, List.set_cons_zero, List.set_cons_succ])
            refine wpAnyH_take (i := 2) (v := ?_) rfl (by kernel_rfl) (by kernel_rfl) (by kernel_rfl) (fun _ _ _ h => h) (Or.inl ⟨by rfl, ?_⟩) (by assumption) ?_
            rotate_left
            · (intro w hSw; (try dsimp only at hSw); go_simp; try with_reducible rfl)
            (try simp only [List.getElem_toArray, List.getElem_cons_succ, List.getElem_cons_zero, Act.put, List.setIfInBounds_toArray, List.set_cons_zero, List.set_cons_succ])
            refine wpAnyH_take (i := 3) (v := ?_) rfl (by kernel_rfl) (by kernel_rfl) (by kernel_rfl) (fun _ _ _ h => h) (Or.inl ⟨by rfl, ?_⟩) (by assumption) ?_
            rotate_left
            · (intro w hSw; (try dsimp only at hSw); go_simp; try with_reducible rfl)
            (try simp only [List.getElem_toArray, List.getElem_cons_succ, List.getElem_cons_zero, Act.put, List.setIfInBounds_toArray, List.set_cons_zero, List.set_cons_succ])
            refine wpAnyH_take (i := 4) (v := ?_) rfl (by kernel_rfl) (by kernel_rfl) (by kernel_rfl) (fun _ _ _ h => h) (Or.inl ⟨by rfl, ?_⟩) (by assumption) ?_
            rotate_left
            · (intro w hSw; (try dsimp only at hSw); go_simp; try with_reducible rfl)
            (try simp only [List.getElem_toArray, List.getElem_cons_succ, List.getElem_cons_zero, Act.put, List.setIfInBounds_toArray, List.set_cons_zero, List.set_cons_succ])
            refine wpAnyH_take (i := 5) (v := ?_) rfl (by kernel_rfl) (by kernel_rfl) (by kernel_rfl) (fun _ _ _ h => h) (Or.inl ⟨by rfl, ?_⟩) (by assumption) ?_
            rotate_left
            · (intro w hSw; (try dsimp only at hSw); go_simp; try with_reducible rfl)
            (try simp only [List.getElem_toArray, List.getElem_cons_succ, List.getElem_cons_zero, Act.put, List.setIfInBounds_toArray, List.set_cons_zero, List.set_cons_succ])
            refine wpAnyH_take (i := 6) (v := ?_) rfl (by kernel_rfl) (by kernel_rfl) (by kernel_rfl) (fun _ _ _ h => h) (Or.inl ⟨by rfl, ?_⟩) (by assumption) ?_
            rotate_left
            · (intro w hSw; (try dsimp only at hSw); go_simp; try with_reducible rfl)
            (try simp only [List.getElem_toArray, List.getElem_cons_succ, List.getElem_cons_zero, Act.put, List.setIfInBounds_toArray, List.set_cons_zero, List.set_cons_succ])
            refine wpAnyH_take (i := 7) (v := ?_) rfl (by kernel_rfl) (by kernel_rfl) (by kernel_rfl) (fun _ _ _ h => h) (Or.inl ⟨by rfl, ?_⟩) (by assumption) ?_
            rotate_left
            · (intro w hSw; (try dsimp only at hSw); go_simp; try with_reducible rfl)
            (try simp only [List.getElem_toArray, List.getElem_cons_succ, List.getElem_cons_zero, Act.put, List.setIfInBounds_toArray, List.set_cons_zero, List.set_cons_succ])
            refine wpAnyH_take (i := 8) (v := ?_) rfl (by kernel_rfl) (by kernel_rfl) (by kernel_rfl) (fun _ _ _ h => h) (Or.inl ⟨by rfl, ?_⟩) (by assumption) ?_
            rotate_left
            · (intro w hSw; (try dsimp only at hSw); go_simp; try with_reducible rfl)
            (try simp only [List.getElem_toArray, List.getElem_cons_succ, List.getElem_cons_zero, Act.put, List.setIfInBounds_toArray, List.set_cons_zero, List.set_cons_succ])
            refine wpAnyH_take (i := 9) (v := ?_) rfl (by kernel_rfl) (by kernel_rfl) (by kernel_rfl) (fun _ _ _ h => h) (Or.inl ⟨by rfl, ?_⟩) (by assumption) ?_
            rotate_left
            · (intro w hSw; (try dsimp only at hSw); go_simp; try with_reducible rfl)
            (try simp only [List.getElem_toArray, List.getElem_cons_succ, List.getElem_cons_zero, Act.put, List.setIfInBounds_toArray, List.set_cons_zero, List.set_cons_succ])
            refine wpAnyH_take (i := 10) (v := ?_) rfl (by kernel_rfl) (by kernel_rfl) (by kernel_rfl) (fun _ _ _ h => h) (Or.inl ⟨by rfl, ?_⟩) (by assumption) ?_
            rotate_left
            · (intro w hSw; (try dsimp only at hSw); go_simp; try with_reducible rfl)
            (try simp only [List.getElem_toArray, List.getElem_cons_succ, List.getElem_cons_zero, Act.put, List.setIfInBounds_toArray, List.set_cons_zero, List.set_cons_succ])
            refine wpAnyH_ready (rs := [11]) (by kernel_rfl) (by simp) ?_
            refine AllReadyH.cons rfl (fun K hK => ?_) AllReadyH.nil
            go_simp
            have bA : Below w8.heap.size w8 (w8.alloc (.cells #[.int .i64 0, .int .i64 0, .int .i64 0, .int .u32 0] 25)).drew := below_drew ((Below.refl _ _).alloc (Nat.le_refl _) _)
            refine hK.out _ _ (HSS.out _ ((bA.block _ HZ8.out).trans HF8.out) (below_then HM8.out.bel HM8.out.bel.size bA)) (fun hSe => ?_)
            clear hK K bA
            (try simp only [List.getElem_toArray, List.getElem_cons_succ, List.getElem_cons_zero, Act.put, List.setIfInBounds_toArray, List.set_cons_zero, List.set_cons_succ])
            refine wpAnyH_ready (rs := [12]) (by kernel_rfl) (by simp) ?_
            refine AllReadyH.cons rfl (fun K hK => ?_) AllReadyH.nil
            go_simp
            obtain ⟨W9, hW9⟩ : ∃ W9, W9 = (w8.alloc (insO i)).drew := ⟨_, rfl⟩
            rw [show (w8.alloc (.cells #[.int .i64 i.f0, .int .i64 i.f1, .int .i64 i.f2, .int .u32 i.f3] 25)).drew = W9 from hW9.symm]
            have hB9 : Below w8.heap.size w8 W9 := by rw [hW9]; exact below_drew ((Below.refl _ _).alloc (Nat.le_refl _) _)
            have HM9 := Lib.hid (HM8.out.later hB9)
            have HX9 := Lib.hid (blk_below HX8.out hB9)
            have hbx9 : W9.heap[w8.heap.size]? = some (insO i) := by rw [hW9]; exact blk_new w8 _
            obtain ⟨b0, b1, b2, b3⟩ := ins_cells hbx9 (Keep.refl W9)
            obtain ⟨c5, g5⟩ := HM9.out.fcell HCL.out
            have hne : fb ≠ w8.heap.size := by have := HZ8.out; omega
            have hne2 : w8.heap.size ≠ fb := by omega
            have HSA := Lib.hid (HM9.out.setAt HCL.out (x.at_ + 1))
            refine hK.out _ _ (HSS.out _ ((hB9.block _ HZ8.out).trans HF8.out) (below_then HM8.out.bel HM8.out.bel.size hB9)) (fun hSf => ?_)
            clear hK K hW9 hB9 hbx9 hSd hSe
            (try simp only [List.getElem_toArray, List.getElem_cons_succ, List.getElem_cons_zero, Act.put, List.setIfInBounds_toArray, List.set_cons_zero, List.set_cons_succ])
            refine wpAnyH_done (by kernel_rfl) ?_ _
            clear hSf wq
            go_wp2_with fail
            refine (do_any HSA.out.1 rfl HC.out i mm1 (by rw [HI.out]; exact HST.out) ?_ ?_ ?_ ?_).mono ?_
            · intro y hy
              have := HBd.out.ll
              rcases List.mem_cons.1 hy with rfl | hy
              · have := this x (by rw [HCL.out]; simp)
                simp only
                omega
              · have := this y (by rw [HCL.out]; simp [hy])
                omega
            · have := HBd.out.cl
              rw [HCL.out] at this
              simp only [List.length_cons] at this ⊢
              omega
            · have := HBd.out.wl
              simp only
              omega
            · exact HBd.out.ol
            rintro e' w11 ⟨he11, hk11, ps1, o1, cv1, h11⟩
            have hr11 : e' = .returned (.tuple #[]) := he11
            subst hr11
            have H11 := Lib.hid h11
            have HX11 := Lib.hid (hk11.keep _ _ _ (.inr (.inr (.inr rfl))) (HSA.out.2.keep _ _ _ (.inr (.inr (.inr rfl))) HX9.out))
            clear h11 hk11 he11 b0 b1 b2 b3 c5 g5 hne hne2
            go_wp2_with fail
            go_roundg k
            case measure => omega
            case rel => exact ⟨j + 1, mm1, by omega, by go_num, ⟨⟨_, _, _, H11.out⟩, HX11.out, HB1'.out, HLP.out⟩⟩
      · rw [if_pos hend] at hlp
        injection hlp with hlp
        have HLP := Lib.hid hlp
        have he1 : (mm.end_ != 0) = true := by rw [bne_iff_ne]; exact hend
        clear hlp hend hM hX f6 HRL
        go_wp2_with fail
        obtain ⟨W3, hW3⟩ : ∃ W3 : World, W3 = { wr with drawn := wr.drawn + 1 } := ⟨_, rfl⟩
        have hB3 : Below wr.heap.size wr W3 := by rw [hW3]; exact below_drew (Below.refl _ _)
        have H3 := Lib.hid (HMc.out.later hB3)
        have hx3 := blk_below HXX.out hB3
        have x0 : W3.cell? ⟨W.heap.size + 1, 0, none⟩ = some (.int .i64 0) := by rw [blk_cell hx3]; rfl
        have x1 : W3.cell? ⟨W.heap.size + 1, 1, none⟩ = some (.string ⟨#[]⟩) := by rw [blk_cell hx3]; rfl
        have x2 : W3.cell? ⟨W.heap.size + 1, 2, none⟩ = some (.int .i64 0) := by rw [blk_cell hx3]; rfl
        have xf : ∀ q, W3.frozen? ⟨W.heap.size + 1, q, none⟩ = false := fun q => blk_frozen hx3 q
        have xf0 := xf 0
        have xf1 := xf 1
        have xf2 := xf 2
        refine wp_region_still_tail 11 (by kernel_rfl) (by kernel_rfl) ?_
        rw [← hW3]
        obtain ⟨_, _, _, _, d4, _, d6, _⟩ := H3.out.mcell
        have hcv := own_string (P := Try.prog) (src := 46) (dst := 9) (e := 5) Try.underlying46 Try.underlying5 Try.underlying9 H3.out.out
        have HB9 := Lib.hid (H3.out.bel)
        have HX3 := Lib.hid hx3
        clear hW3 hB3 xf hx3
        simp only [List.take_succ_cons, List.take_zero, List.drop_succ_cons, List.drop_zero]
        repeat still_step
        refine wpStill_nil ?_
        clear hcv d4 d6
        go_wp2_with fail
        obtain ⟨VF, hVF⟩ : ∃ VF, VF = ((W3.setCell ⟨W.heap.size + 1, 0, none⟩ (.int .i64 mm.end_)).setCell ⟨W.heap.size + 1, 1, none⟩ (.string (strOfNums mm.out))).setCell ⟨W.heap.size + 1, 2, none⟩ (.int .i64 j) := ⟨_, rfl⟩
        have hb1 : VF.heap[W.heap.size + 1]? = some (.cells #[.int .i64 mm.end_, .string (strOfNums mm.out), .int .i64 j] 33 (0, 0)) := by
          rw [hVF]
          have h := blk_set (blk_set (blk_set HX3.out 0 (.int .i64 mm.end_)) 1 (.string (strOfNums mm.out))) 2 (.int .i64 j)
          simpa using h
        have y0 : VF.cell? ⟨W.heap.size + 1, 0, none⟩ = some (.int .i64 mm.end_) := by rw [blk_cell hb1]; rfl
        have y1 : VF.cell? ⟨W.heap.size + 1, 1, none⟩ = some (.string (strOfNums mm.out)) := by rw [blk_cell hb1]; rfl
        have y2 : VF.cell? ⟨W.heap.size + 1, 2, none⟩ = some (.int .i64 j) := by rw [blk_cell hb1]; rfl
        have hBF : Below W.heap.size W VF := by
          rw [hVF]
          exact ((HB9.out.setCell (p := ⟨W.heap.size + 1, 0, none⟩) (by simp) _).setCell (p := ⟨W.heap.size + 1, 1, none⟩) (by simp) _).setCell (p := ⟨W.heap.size + 1, 2, none⟩) (by simp) _
        rw [← hVF]
        clear hVF hb1 x0 x1 x2 xf0 xf1 xf2
        try rw [Exit.noGoto_ret]
        refine bodyPost_ret (v := .agg #[.int .i64 mm.end_, .string (strOfNums mm.out), .int .i64 j]) (by simp [results, Try.results10, go_sem, y0, y1, y2]) rfl ⟨?_, hBF⟩
        have h := HLP.out; simp only [Prod.mk.injEq] at h; obtain ⟨h1, h2, h3⟩ := h; subst h1 h2 h3; rfl
end Go.Proofs.Ytlngcolnjgloaaa
