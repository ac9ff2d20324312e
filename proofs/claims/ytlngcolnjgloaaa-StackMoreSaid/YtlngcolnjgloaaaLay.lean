/- Blocks of instructions and functions read as rows; the laws' little program. Conditions: none. -/
import Derived.Test.YtlngcolnjgloaaaRgt
import Derived.Test.YtlngcolnjgloaaaRnn
namespace Go.Proofs.Ytlngcolnjgloaaa
set_option linter.unusedVariables false
set_option linter.unusedSimpArgs false
open Go.RowKit Go.Proofs.YtlngcolnjgloaaaW.PrintWords PStackRuns

def fl25 : List S25 → List Value
  | [] => []
  | x :: l => .int .i64 x.f0 :: .int .i64 x.f1 :: .int .i64 x.f2 :: .int .u32 x.f3 :: fl25 l

theorem fl25_get : ∀ (l : List S25) (j : Nat) (p : S25), l[j]? = some p → ∀ i u, [Value.int .i64 p.f0, .int .i64 p.f1, .int .i64 p.f2, .int .u32 p.f3][i]? = some u → (fl25 l)[j * 4 + i]? = some u := by
  intro l
  induction l with
  | nil => intro j p h; simp at h
  | cons x l ih =>
    intro j p h i u hu
    have hi : i < 4 := by
      have := (List.getElem?_eq_some_iff.1 hu).1
      simpa using this
    cases j with
    | zero =>
      simp at h
      subst h
      match i, hi, hu with
      | 0, _, hu => simpa [fl25] using hu
      | 1, _, hu => simpa [fl25] using hu
      | 2, _, hu => simpa [fl25] using hu
      | 3, _, hu => simpa [fl25] using hu
    | succ j =>
      have h' : l[j]? = some p := by simpa using h
      have := ih j p h' i u hu
      rw [show (j + 1) * 4 + i = (j * 4 + i) + 4 by omega]
      simpa [fl25] using this

theorem C25 {W : World} {g : Nat} {l : List S25} (h : W.heap[g]? = some (.cells (fl25 l).toArray 25 (0, 0))) (hl : l.length ≤ 9223372036854775807) : k25.C W (some ⟨g, 0, none⟩) l.length l := by
  refine ⟨rfl, hl, fun _ => ⟨_, rfl, fun j p hj => ⟨_, rfl, k25_mk W p, fun i u hu => ?_⟩⟩⟩
  rw [add_plain, blk_cell h]
  have := fl25_get l j p hj i u hu
  show (fl25 l).toArray[j * 4 + i]? = some u
  simpa using this

theorem C28_one {W : World} {g : Nat} {x : S28} {A4 : Option Addr} {c4 : Nat} (h : W.heap[g]? = some (.cells #[.int .i64 x.f0, .int .i64 x.f1, .int .i64 x.f2, .bool x.f3, .slice A4 x.f4.length c4] 28 (0, 0))) (l4 : x.f4.length ≤ c4) (g4 : k25.C W A4 x.f4.length x.f4) : k28.C W (some ⟨g, 0, none⟩) 1 [x] := by
  refine ⟨rfl, by decide, fun _ => ⟨_, rfl, fun j p hj => ?_⟩⟩
  match j, hj with
  | 0, hj =>
    simp at hj
    subst hj
    refine ⟨_, rfl, k28_mk W x l4 g4, fun i u hu => ?_⟩
    rw [add_plain, blk_cell h]
    rw [show 0 * k28.sz + i = i by omega]
    simpa using hu

theorem C28_two {W : World} {g : Nat} {x y : S28} {A4 B4 : Option Addr} {c4 e4 : Nat} (h : W.heap[g]? = some (.cells #[.int .i64 x.f0, .int .i64 x.f1, .int .i64 x.f2, .bool x.f3, .slice A4 x.f4.length c4, .int .i64 y.f0, .int .i64 y.f1, .int .i64 y.f2, .bool y.f3, .slice B4 y.f4.length e4] 28 (0, 0))) (l4 : x.f4.length ≤ c4) (g4 : k25.C W A4 x.f4.length x.f4) (l5 : y.f4.length ≤ e4) (g5 : k25.C W B4 y.f4.length y.f4) : k28.C W (some ⟨g, 0, none⟩) 2 [x, y] := by
  refine ⟨rfl, by decide, fun _ => ⟨_, rfl, fun j p hj => ?_⟩⟩
  match j, hj with
  | 0, hj =>
    simp at hj
    subst hj
    refine ⟨_, rfl, k28_mk W x l4 g4, fun i u hu => ?_⟩
    have hi : i < 5 := by
      have := (List.getElem?_eq_some_iff.1 hu).1
      simpa using this
    rw [add_plain, blk_cell h]
    rw [show 0 * k28.sz + i = i by omega]
    match i, hi, hu with
    | 0, _, hu => simpa using hu
    | 1, _, hu => simpa using hu
    | 2, _, hu => simpa using hu
    | 3, _, hu => simpa using hu
    | 4, _, hu => simpa using hu
  | 1, hj =>
    simp at hj
    subst hj
    refine ⟨_, rfl, k28_mk W y l5 g5, fun i u hu => ?_⟩
    have hi : i < 5 := by
      have := (List.getElem?_eq_some_iff.1 hu).1
      simpa using this
    rw [add_plain, blk_cell h]
    rw [show 1 * k28.sz + i = 5 + i from by rw [Nat.one_mul]; rfl]
    match i, hi, hu with
    | 0, _, hu => simpa using hu
    | 1, _, hu => simpa using hu
    | 2, _, hu => simpa using hu
    | 3, _, hu => simpa using hu
    | 4, _, hu => simpa using hu

set_option maxHeartbeats 1000000 in
set_option maxRecDepth 100000 in
theorem code_any (w : World) (A : Option Addr) (n c : Nat) : Calls Try.prog 17 #[.slice A n c] w fun e w' => ∃ g, e = .returned (.agg #[.int .i64 0, .slice (some ⟨g, 0, none⟩) 1 1]) ∧ w'.heap[g]? = some (.cells #[.int .i64 0, .int .i64 0, .int .i64 0, .bool false, .slice A n c] 28 (0, 0)) ∧ Below w.heap.size w w' := by
  go_enter Try.func17, Try.ntmps17
  go_wp2_with fail
  obtain ⟨V, hV⟩ : ∃ V, V = (w.alloc (.cells #[.int .i64 0, .slice (some ⟨w.heap.size + 1, 0, none⟩) 1 1] 31)).alloc (.cells #[.int .i64 0, .int .i64 0, .int .i64 0, .bool false, .slice A n c] 28) := ⟨_, rfl⟩
  rw [← hV]
  have h1 : V.heap[w.heap.size + 1]? = some (.cells #[.int .i64 0, .int .i64 0, .int .i64 0, .bool false, .slice A n c] 28 (0, 0)) := by
    rw [hV]
    exact (congrArg (fun k => (World.alloc _ _).heap[k]?) (by simp)).trans (heap_alloc_new (w.alloc _) _)
  have h2 : V.heap[w.heap.size]? = some (.cells #[.int .i64 0, .slice (some ⟨w.heap.size + 1, 0, none⟩) 1 1] 31 (0, 0)) := by
    rw [hV]
    exact blk_alloc (heap_alloc_new w _) _
  have h3 : Below w.heap.size w V := by rw [hV]; exact ((Below.refl _ _).alloc (Nat.le_refl _) _).alloc (by simp) _
  have y0 : V.cell? ⟨w.heap.size, 0, none⟩ = some (.int .i64 0) := by rw [blk_cell h2]; rfl
  have y1 : V.cell? ⟨w.heap.size, 1, none⟩ = some (.slice (some ⟨w.heap.size + 1, 0, none⟩) 1 1) := by rw [blk_cell h2]; rfl
  clear hV
  exact bodyPost_ret (v := .agg #[.int .i64 0, .slice (some ⟨w.heap.size + 1, 0, none⟩) 1 1]) (by simp [results, Try.results17, go_sem, y0, y1]) rfl ⟨_, rfl, h1, h3⟩

theorem run_awake1 : runF 0 [⟨0, 0, 0, false, [⟨1, 0, 0, 65⟩, ⟨13, 0, 0, 0⟩, ⟨11, 0, 0, 0⟩]⟩] ⟨#[]⟩ 10 10 = some (1, [65], 3) := by decide +kernel
theorem run_awake2 : runF 0 [⟨0, 0, 0, false, [⟨1, 0, 0, 65⟩, ⟨13, 0, 0, 0⟩, ⟨11, 0, 0, 0⟩]⟩] ⟨#[]⟩ 2 10 = some (5, [65], 2) := by decide +kernel
theorem dep_awake1 : depthsF [⟨0, 0, 0, false, [⟨1, 0, 0, 65⟩, ⟨13, 0, 0, 0⟩, ⟨11, 0, 0, 0⟩]⟩] 0 10 = some ([0, 1, 0], true) := by decide +kernel
theorem dep_awake2 : depthsF [⟨0, 0, 0, false, [⟨13, 0, 0, 0⟩, ⟨11, 0, 0, 0⟩]⟩] 0 10 = some ([], false) := by decide +kernel
theorem str_awake : strOfNums [65] = ⟨#[65]⟩ := by decide +kernel
end Go.Proofs.Ytlngcolnjgloaaa
