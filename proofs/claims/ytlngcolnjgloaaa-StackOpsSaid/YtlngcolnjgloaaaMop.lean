/- The machine's small steps: a word pushed, popped, some taken, off the top frame's stack. Conditions: rows below 2^47 bytes. -/
import Derived.Test.YtlngcolnjgloaaaPil
namespace Go.Proofs.Ytlngcolnjgloaaa
open Go.RowKit Go.Proofs.YtlngcolnjgloaaaW.PrintWords PStackRuns
set_option linter.unusedVariables false
set_option linter.unusedSimpArgs false

/-- Variables of types 25, 28, 31, 33 (no part of the machine) stay. -/
structure Keep (W W' : World) : Prop where
  size : W.heap.size ≤ W'.heap.size
  keep : ∀ (i : Nat) (cs : Array Value) (t : TypeId), (t = 25 ∨ t = 28 ∨ t = 31 ∨ t = 33) → W.heap[i]? = some (.cells cs t (0, 0)) → W'.heap[i]? = some (.cells cs t (0, 0))
theorem Keep.refl (W : World) : Keep W W := ⟨Nat.le_refl _, fun _ _ _ _ h => h⟩
theorem Keep.trans {W W1 W2 : World} (h : Keep W W1) (k : Keep W1 W2) : Keep W W2 := ⟨Nat.le_trans h.size k.size, fun i cs t ht hb => k.keep i cs t ht (h.keep i cs t ht hb)⟩
theorem Keep.of_below {W W1 : World} (h : Below W.heap.size W W1) : Keep W W1 := ⟨h.size, fun i cs t _ hb => blk_below hb h⟩
theorem Rowed.keep {w0 W W' : World} {base b o : Nat} {cs : Array Value} {t e : TypeId} {v v1 : Value} {ys xs : List Value} {n : Nat} (h : Rowed w0 W W' base b o cs t e v v1 ys) (hb : W.heap[b]? = some (.cells cs t (0, 0))) (ho : W.ownsRow base e 1 v n xs)
    (ht : t = 61 ∨ t = 67) (he : e = 22 ∨ e = 63 ∨ e = 5) : Keep W W' := by
  refine ⟨h.size, fun i ds u hu hi => ?_⟩
  rw [h.same i (blk_lt hi) (ty_ne hi hb (by rcases ht with rfl | rfl <;> rcases hu with rfl | rfl | rfl | rfl <;> decide)) (own_ne ho hi (by rcases he with rfl | rfl | rfl <;> rcases hu with rfl | rfl | rfl | rfl <;> decide))]
  exact hi
theorem Keep.cell {W W' : World} (h : Keep W W') {i : Nat} {cs : Array Value} {t : TypeId} (ht : t = 25 ∨ t = 28 ∨ t = 31 ∨ t = 33) (hb : W.heap[i]? = some (.cells cs t (0, 0))) (j : Nat) (v : Value) (hv : cs[j]? = some v) : W'.cell? ⟨i, j, none⟩ = some v := by
  rw [blk_cell (h.keep i cs t ht hb)]; exact hv

section
variable {w0 W : World} {mb wb sc fb : Nat} {ps : List (Nat × Value)} {outv callsv v : Value} {sw : Int} {SA : Option Addr} {fs : List S28} {m : Mc} {x : Fr} {xs : List Fr}

theorem Mach.top_at (h : Mach w0 W mb ((fb, v) :: ps) wb outv callsv sw SA sc fs m) (hm : m.calls = x :: xs) : FrameAt w0 W fb v x := by
  have := h.frs
  rw [hm] at this
  exact this.1

theorem mpush (h : Mach w0 W mb ((fb, v) :: ps) wb outv callsv sw SA sc fs m) (hm : m.calls = x :: xs) (u : Int) (hl : (x.l.length + 1) * 4 ≤ 140737488355328) :
    Calls Try.prog 32 #[.pointer (some ⟨fb, 6, none⟩), .int .u32 u] W fun e w' => isRet e ∧ Keep W w' ∧ ∃ v1, Mach w0 w' mb ((fb, v1) :: ps) wb outv callsv sw SA sc fs { m with calls := { x with l := u :: x.l } :: xs } := by
  have hf := h.top_at hm
  obtain ⟨A, c, hc, hC, hb⟩ := hf.blk
  refine (push_word (w0 := w0) (base := w0.heap.size) (l := x.l.reverse) u hb (o := 6) rfl hf.ge (by decide) (by rw [List.length_reverse]; exact hf.own) h.bel h.bel.size (by rw [List.length_reverse]; exact hl)).mono ?_
  rintro e w' ⟨he, v1, hr⟩
  refine ⟨he, hr.keep hb hf.own (.inr rfl) (.inl rfl), v1, ?_⟩
  refine h.top hm hr.bel hr.size hr.same ?_ hr.at_
  refine ⟨⟨A, c, hc, hC, ?_⟩, ?_, hf.ge⟩
  · simpa using hr.blk
  · have := hr.own
    rw [nums_length] at this
    simpa using this

theorem mpop {u : Int} {l : List Int} (h : Mach w0 W mb ((fb, v) :: ps) wb outv callsv sw SA sc fs m) (hm : m.calls = x :: xs) (hx : x.l = u :: l) :
    Calls Try.prog 33 #[.pointer (some ⟨fb, 6, none⟩)] W fun e w' => e = .returned (.int .u32 u) ∧ Keep W w' ∧ ∃ v1, Mach w0 w' mb ((fb, v1) :: ps) wb outv callsv sw SA sc fs { m with calls := { x with l := l } :: xs } := by
  have hf := h.top_at hm
  obtain ⟨A, c, hc, hC, hb⟩ := hf.blk
  have ho := hf.own
  rw [hx] at ho
  refine (pop_word (w0 := w0) (base := w0.heap.size) (l := l.reverse) (x := u) hb (o := 6) rfl hf.ge (by decide) (by simpa using ho) h.bel).mono ?_
  rintro e w' ⟨he, v1, hr⟩
  refine ⟨he, hr.keep hb hf.own (.inr rfl) (.inl rfl), v1, ?_⟩
  refine h.top hm hr.bel hr.size hr.same ?_ hr.at_
  refine ⟨⟨A, c, hc, hC, ?_⟩, ?_, hf.ge⟩
  · simpa using hr.blk
  · have := hr.own
    rw [nums_length] at this
    simpa using this

theorem mtake {args l : List Int} (h : Mach w0 W mb ((fb, v) :: ps) wb outv callsv sw SA sc fs m) (hm : m.calls = x :: xs) (hx : x.l = args.reverse ++ l) (hl : x.l.length * 4 ≤ 140737488355328) :
    Calls Try.prog 37 #[.pointer (some ⟨fb, 6, none⟩), .int .i64 args.length] W fun e w' => ∃ r, e = .returned r ∧ Keep W w' ∧ (∃ v1, Mach w0 w' mb ((fb, v1) :: ps) wb outv callsv sw SA sc fs { m with calls := { x with l := l } :: xs }) ∧ w'.ownsRow W.heap.size 22 1 r args.length (nums .u32 args) := by
  have hf := h.top_at hm
  obtain ⟨A, c, hc, hC, hb⟩ := hf.blk
  have ho := hf.own
  have e1 : x.l.reverse = l.reverse ++ args := by rw [hx]; simp
  have e2 : x.l.length = (l.reverse ++ args).length := by rw [← e1]; simp
  rw [e1, e2] at ho
  refine (take_word (w0 := w0) (base := w0.heap.size) (keep := l.reverse) (args := args) hb (o := 6) rfl hf.ge (by decide) ho h.bel h.bel.size (by rw [← e2]; exact hl)).mono ?_
  rintro e w' ⟨r, he, ⟨v1, hr⟩, hor⟩
  refine ⟨r, he, hr.keep hb hf.own (.inr rfl) (.inl rfl), ⟨v1, ?_⟩, hor⟩
  refine h.top hm hr.bel hr.size hr.same ?_ hr.at_
  refine ⟨⟨A, c, hc, hC, ?_⟩, ?_, hf.ge⟩
  · simpa using hr.blk
  · have := hr.own
    rw [nums_length] at this
    simpa using this
end
end Go.Proofs.Ytlngcolnjgloaaa
