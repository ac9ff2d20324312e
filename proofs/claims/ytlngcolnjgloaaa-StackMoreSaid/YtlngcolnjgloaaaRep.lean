/- The contract of slices.Repeat of one whole number. Conditions: the result takes at most 2^47 - 4096 bytes. -/
import Derived.Test.YtlngcolnjgloaaaPStackRunsx3
import Derived.Lib.Hide
import Derived.WalkSpells
import Derived.WalkLawsBesides
import Derived.IntWalk
import Derived.Laws.CopyOwn
import Derived.Deep.RegionLaw
namespace Go.Proofs.Ytlngcolnjgloaaa
set_option linter.unusedVariables false
set_option linter.unusedSimpArgs false
open Go.RowKit Go.Proofs.YtlngcolnjgloaaaW.PrintWords

set_option linter.unusedSimpArgs false
/-! ### slices.Repeat of one number -/
theorem mul_one_u64 (n : Nat) (h : n < 4294967296 * 65536) : PStackRuns.bits_Mul.f 1 (n : Int) = some (0, (n : Int)) := by
  have e1 : Go.bits .and .u64 (1 : Int) 4294967295 = 1 := by
    have := bits_and_u64_nat 1 4294967295 (by decide) (by decide)
    simpa using this
  have e2 : Go.bits .and .u64 (n : Int) 4294967295 = ((n % 4294967296 : Nat) : Int) := by
    have := bits_and_u64_nat n 4294967295 (by omega) (by decide)
    rw [show (4294967295 : Int) = ((4294967295 : Nat) : Int) from rfl, this, Nat.and_two_pow_sub_one_eq_mod n 32]
  have u : ∀ x : Int, 0 ≤ x → x < 18446744073709551616 → IntKind.u64.wrap x = x := by
    intro x h0 h1
    rw [IntKind.wrap_u64]
    exact Int.emod_eq_of_lt h0 h1
  unfold PStackRuns.bits_Mul.f PStackRuns.bits_Mul64.f
  rw [e1, e2]
  have d1 : (1 : Int) / 4294967296 = 0 := by decide
  have m0 : ((n % 4294967296 : Nat) : Int) = (n : Int) % 4294967296 := by omega
  have f0 : IntKind.u64.wrap 0 = 0 := u 0 (by omega) (by omega)
  have fy0 : IntKind.u64.wrap ((n : Int) % 4294967296) = (n : Int) % 4294967296 := u _ (by omega) (by omega)
  have fy1 : IntKind.u64.wrap ((n : Int) / 4294967296) = (n : Int) / 4294967296 := u _ (by omega) (by omega)
  have z : (n : Int) % 4294967296 / 4294967296 = 0 := by omega
  have zy : (n : Int) / 4294967296 / 4294967296 = 0 := by omega
  have fn : IntKind.u64.wrap (n : Int) = n := u _ (by omega) (by omega)
  have and0 : Go.bits .and .u64 (0 : Int) 4294967295 = 0 := by
    have := bits_and_u64_nat 0 4294967295 (by decide) (by decide)
    simpa using this
  simp only [d1, m0, Int.zero_mul, Int.one_mul, Int.zero_add, Int.add_zero, f0, fy0, z, fy1, and0, zy, fn, Int.zero_ediv, Option.bind_some]

def reps (m n : Nat) (x : Int) : List Int := List.replicate m x ++ List.replicate (n - m) 0

def RepPost (w : World) (n : Nat) (x : Int) (e : Ending) (w' : World) : Prop := ∃ g, e = .returned (.slice (some ⟨g, 0, none⟩) n n) ∧ w.heap.size ≤ g ∧ w'.heap[g]? = some (.cells (nums .i64 (List.replicate n x)).toArray 3 (0, 0)) ∧ Below w.heap.size w w'

theorem made_nums3 (n : Nat) : madeCells #[Value.int .i64 0] n = (nums .i64 (List.replicate n 0)).toArray := by
  apply Array.ext
  · simp [madeCells, nums]
  · intro i h1 h2
    have h0 : i % 1 = 0 := Nat.mod_one i
    simp [madeCells, nums, h0]

theorem splice_reps (m n : Nat) (x : Int) (hm : m ≤ n) (k : Nat) (hk : k = min m (n - m)) : splice (nums .i64 (reps m n x)) m (nums .i64 (List.replicate k x)) = nums .i64 (reps (m + k) n x) := by
  subst hk
  simp only [splice, nums, reps, List.map_append, List.map_replicate, List.length_replicate]
  rw [List.take_append_of_le_length (by simp), List.take_of_length_le (by simp), List.drop_append, List.drop_of_length_le (by simp)]
  simp only [List.length_replicate, List.nil_append, List.drop_replicate]
  rw [← List.append_assoc, List.replicate_append_replicate]
  congr 2
  omega

theorem nums_one3 (xs : List Int) : ∀ v ∈ nums .i64 xs, v.oneCell' = true := by
  intro v hv
  simp only [nums, List.mem_map] at hv
  obtain ⟨y, _, rfl⟩ := hv
  rfl

theorem rep_src {w : World} {g m n k : Nat} {x : Int} (hk : k ≤ m) (hg : w.heap[g]? = some (.cells (nums .i64 (reps m n x)).toArray 3 (0, 0))) : ∀ j v, (nums .i64 (List.replicate k x))[j]? = some v → w.cell? ((⟨g, 0, none⟩ : Addr).add j) = some v := by
  intro j v hj
  rw [add_plain]
  have hjk : j < k := by
    have := (List.getElem?_eq_some_iff.1 hj).1
    simpa [nums] using this
  have hv : v = .int .i64 x := by
    have hj2 := hj
    simp only [nums, List.map_replicate, List.getElem?_replicate, if_pos hjk] at hj2
    exact (Option.some.inj hj2).symm
  subst hv
  have h2 : (nums .i64 (reps m n x))[j]? = some (.int .i64 x) := by
    simp only [nums, reps, List.map_append, List.map_replicate]
    rw [List.getElem?_append_left (by rw [List.length_replicate]; omega), List.getElem?_replicate, if_pos (by omega)]
  simp [World.cell?, hg, h2]

theorem splice_one (n : Nat) (x : Int) (h : 0 < n) : splice (nums .i64 (List.replicate n 0)) 0 [Value.int .i64 x] = nums .i64 (reps 1 n x) := by
  obtain ⟨n, rfl⟩ : ∃ m, n = m + 1 := ⟨n - 1, by omega⟩
  simp [splice, nums, reps]

set_option maxHeartbeats 1000000 in
set_option maxRecDepth 100000 in
theorem repeat_any (w : World) (g1 : Nat) (x : Int) (n : Nat) (h1 : w.heap[g1]? = some (.cells #[.int .i64 x] 3 (0, 0))) (hn : n * 24 ≤ 140737488351232) (hpos : 0 < n) :
    Calls Try.prog 28 #[.slice (some ⟨g1, 0, none⟩) 1 1, .int .i64 n] w (RepPost w n x) := by
  have hmk : ∀ W : World, (Instr.makeSlice 52 (.int .i64 (n : Int)) (.int .i64 (n : Int))).run Try.prog W = .ok (.slice (some ⟨W.heap.size, 0, none⟩) n n) (W.alloc (.cells (madeCells #[.int .i64 0] n) 3)) := by
    intro W
    exact run_make_row' 52 3 (.int .i64 0) 8 Try.underlying52 PStackRuns.info3 rfl .i64 .i64 n (by omega) (by omega) W
  have c0 : decide ((n : Int) < 0) = false := decide_eq_false (by omega)
  have c9 : decide (9223372036854775807 < (n : Int)) = false := decide_eq_false (by omega)
  have hlt := lt_of_block h1
  have H1 := Lib.hid h1
  have k0 : (0 : Int) ≤ n := by omega
  have k1 : (n : Int) ≤ 281474976710656 := by omega
  have kp : (1 : Int) ≤ n := by omega
  clear h1
  go_enter Try.func28, Try.ntmps28
  go_wp2_with (first | (go_at_call 49; refine (PStackRuns.bits_Mul.calls 1 n 0 n _ (mul_one_u64 n (by omega))).mono ?_; rintro e w1 ⟨rfl, ⟨m1, rfl⟩⟩) | (refine wpList_copy_splice (o := ⟨some 33, _, _, _, _, _⟩) rfl (.tmp 31) (.tmp 32) 52 52 rfl 3 Try.underlying52 (by kernel_rfl) _ _ n n 1 1 rfl rfl w.heap.size 0 (nums .i64 (List.replicate n 0)) 3 ?hg [.int .i64 x] ?hn (fun _ => ⟨rfl, _, rfl, ?hsrc⟩) ?hfit ?h1 w.heap.size w ?hb (Nat.le_refl _) ?_))
  case hg => rw [← made_nums3]; exact heap_alloc_new _ _
  case hn => simp [Nat.min_def]; omega
  case hfit => simp [nums]; omega
  case h1 => intro v hv; simp at hv; subst hv; rfl
  case hb => exact (pw_below_drewN (Below.refl _ _) _).alloc (Nat.le_refl _) _
  case hsrc =>
    intro j v hj
    match j, hj with
    | 0, hj =>
      simp at hj
      subst hj
      have := cell_of_one H1.out
      simp only [Addr.add, if_true]
      rw [World.cell?_alloc_lt _ _ _ (by exact hlt)]
      exact this
  intro w2 hg hb
  have hg' : w2.heap[w.heap.size]? = some (.cells (nums .i64 (reps 1 n x)).toArray 3 (0, 0)) := by
    rw [hg.out]
    have := splice_one n x hpos
    rw [this]
  have HG := Lib.hid hg'
  have HB := Lib.hid hb
  clear hg hg' hb hlt H1 hmk
  go_wp2_with fail
  go_loopw [8] (fun v w' => ∃ m : Nat, 1 ≤ m ∧ m ≤ n ∧ v = .int .i64 m ∧ RowKit.Hid (w'.heap[w.heap.size]? = some (.cells (nums .i64 (reps m n x)).toArray 3 (0, 0))) ∧ Below w.heap.size w w') (fun v _ => n - (intOf v).toNat)
  case atStart => exact ⟨1, Nat.le_refl _, by omega, rfl, HG, HB.out⟩
  case round =>
    obtain ⟨m, hm1, hmn, rfl, hg, hb⟩ := hrel
    have HB1 := Lib.hid hb
    clear hb HG HB
    by_cases hlt : m < n
    · have q1 : decide ((m : Int) < n) = true := decide_eq_true (by omega)
      have q2 : (0 : Int) ≤ m := by omega
      have q3 : (m : Int) ≤ n := by omega
      obtain ⟨k, hk⟩ : ∃ k, k = min m (n - m) := ⟨_, rfl⟩
      have hk1 : 1 ≤ k := by omega
      have hk2 : m + k ≤ n := by omega
      have k3 : (m : Int) + k ≤ n := by omega
      have k4 : (0 : Int) ≤ k := by omega
      have HK := Lib.hid hk
      have hsrc := Lib.hid (rep_src (w := wr.drew) (g := w.heap.size) (m := m) (n := n) (x := x) (k := k) (by omega) hg.out)
      have hcl : (nums .i64 (List.replicate k x)).length = k := by simp [nums]
      have HCL := Lib.hid hcl
      have HMIN := Lib.hid (show (nums .i64 (List.replicate k x)).length = Nat.min m (n - m) from hcl.trans hk)
      have HFIT := Lib.hid (show m + (nums .i64 (List.replicate k x)).length ≤ (nums .i64 (reps m n x)).length by rw [hcl]; simp [nums, reps]; omega)
      have HI := Lib.hid (show (Try.prog.info? 3).map (·.size) = some 1 by kernel_rfl)
      have HRUN := Lib.hid (show ∃ w3, (Builtin.copy_ #[52, 52] 3 #[.slice (some ⟨w.heap.size, m, none⟩) (n - m) (n - m), .slice (some ⟨w.heap.size, 0, none⟩) m n]).run Try.prog wr.drew = .ok (.int .i64 k) w3 ∧ w3.heap[w.heap.size]? = some (.cells (nums .i64 (reps (m + k) n x)).toArray 3 (0, 0)) ∧ Below w.heap.size w w3 from by
        refine ⟨_, by rw [run_copy_row Try.prog wr.drew 52 52 3 3 w.heap.size m (n - m) (n - m) ⟨w.heap.size, 0, none⟩ m n (nums .i64 (reps m n x)).toArray 3 (nums .i64 (List.replicate k x)) Try.underlying52 HI.out hg.out HMIN.out hsrc.out (by simpa using HFIT.out) (nums_one3 _), HCL.out]; rfl, ?_, ?_⟩
        · rw [setRow_heap wr.drew w.heap.size _ _ 3 _ hg.out, ← splice_reps m n x hmn k HK.out]
          simp [splice, hcl]
        · exact below_setRow HB1.out.drew (Nat.le_refl _) _)
      clear hcl hk
      go_wp2_with fail
      obtain ⟨w3, hrun, hg3, hb3⟩ := HRUN.out
      have HG3 := Lib.hid hg3
      have HB3 := Lib.hid hb3
      clear hg3 hb3
      have hwrap : IntKind.i64.wrap ((m : Int) + k) = (m : Int) + k := IntWalk.i64_in _ (by omega)
      go_region_held3 (fun _ => True) (exact trivial) (fail)
      clear hwrap
      go_wp2_with fail
      go_roundw
      case rel => exact ⟨m + k, by omega, by omega, by go_num, HG3.out, HB3.out⟩
      case measure => simp [intOf]; omega
    · have q1 : decide ((m : Int) < n) = false := decide_eq_false (by omega)
      obtain rfl : m = n := by omega
      go_wp2_with fail
      go_ret
      exact ⟨w.heap.size, rfl, Nat.le_refl _, by rw [hg.out]; simp [reps], HB1.out⟩
set_option maxHeartbeats 1000000 in
set_option maxRecDepth 100000 in
theorem repeat_zero (w : World) (g1 : Nat) (x : Int) :
    Calls Try.prog 28 #[.slice (some ⟨g1, 0, none⟩) 1 1, .int .i64 0] w (RepPost w 0 x) := by
  have hmk : ∀ W : World, (Instr.makeSlice 52 (.int .i64 0) (.int .i64 0)).run Try.prog W = .ok (.slice (some ⟨W.heap.size, 0, none⟩) 0 0) (W.alloc (.cells (madeCells #[.int .i64 0] 0) 3)) := by
    intro W
    exact run_make_row' 52 3 (.int .i64 0) 8 Try.underlying52 PStackRuns.info3 rfl .i64 .i64 0 (by omega) (by omega) W
  have hcp : ∀ (W : World) (g : Nat), (Builtin.copy_ #[52, 52] 3 #[.slice (some ⟨g, 0, none⟩) 0 0, .slice (some ⟨g1, 0, none⟩) 1 1]).run Try.prog W = .ok (.int .i64 0) W := by
    intro W g
    exact run_copy_none W 52 52 3 3 _ _ 0 0 1 1 Try.underlying52 (by kernel_rfl) (by decide)
  go_enter Try.func28, Try.ntmps28
  go_wp2_with (go_at_call 49; refine (PStackRuns.bits_Mul.calls 1 0 0 0 _ (mul_one_u64 0 (by omega))).mono ?_; rintro e w1 ⟨rfl, ⟨m1, rfl⟩⟩)
  refine wp_loop_rounds 1 ?_
  rw [rounds_succ]
  go_wp2_with fail
  go_ret
  refine ⟨w.heap.size, rfl, Nat.le_refl _, ?_, (pw_below_drewN (Below.refl _ _) _).alloc (Nat.le_refl _) _⟩
  rw [made_nums3]
  exact heap_alloc_new _ _
end Go.Proofs.Ytlngcolnjgloaaa
