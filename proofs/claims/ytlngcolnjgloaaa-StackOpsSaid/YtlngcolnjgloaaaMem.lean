/- The stack machine's memory: how a plain machine (words, input, output, calls) lies in the blocks of stack.Run, and what a change of one block leaves. Conditions: none. -/
import Derived.Test.YtlngcolnjgloaaaPStackRunsx2
namespace Go.Proofs.Ytlngcolnjgloaaa
open Go.RowKit Go.Proofs.YtlngcolnjgloaaaW.PrintWords PStackRuns
set_option linter.unusedVariables false
set_option linter.unusedSimpArgs false

/-- A call in the midst: its function, where it goes on, its stack (the top first). -/
structure Fr where
  f : S28
  at_ : Int
  l : List Int
/-- A run in the midst. -/
structure Mc where
  words : List Int
  inp : ByteArray
  out : List Int
  calls : List Fr
  end_ : Int

structure FrameAt (w0 W : World) (fb : Nat) (v : Value) (x : Fr) : Prop where
  blk : ∃ A c, x.f.f4.length ≤ c ∧ k25.C w0 A x.f.f4.length x.f.f4 ∧ W.heap[fb]? = some (.cells #[.int .i64 x.f.f0, .int .i64 x.f.f1, .int .i64 x.f.f2, .bool x.f.f3, .slice A x.f.f4.length c, .int .i64 x.at_, v] 67 (0, 0))
  own : W.ownsRow w0.heap.size 22 1 v x.l.length (nums .u32 x.l.reverse)
  ge : w0.heap.size ≤ fb

def Frs (w0 W : World) (wb : Nat) : List (Nat × Value) → List Fr → Prop
  | [], [] => True
  | p :: ps, x :: xs => FrameAt w0 W p.1 p.2 x ∧ p.2.ownBlock ≠ some wb ∧ (∀ q ∈ ps, q.1 ≠ p.1 ∧ (p.2.ownBlock = none ∨ q.2.ownBlock ≠ p.2.ownBlock)) ∧ Frs w0 W wb ps xs
  | _, _ => False

theorem Frs.len {w0 W : World} {wb : Nat} : ∀ {ps : List (Nat × Value)} {xs : List Fr}, Frs w0 W wb ps xs → ps.length = xs.length
  | [], [], _ => rfl
  | p :: ps, x :: xs, h => by simp [Frs.len h.2.2.2]

theorem FrameAt.move {w0 W W' : World} {fb : Nat} {v : Value} {x : Fr} (h : FrameAt w0 W fb v x) (h1 : W'.heap[fb]? = W.heap[fb]?) (h2 : ∀ k, v.ownBlock = some k → W'.heap[k]? = W.heap[k]?) : FrameAt w0 W' fb v x := by
  obtain ⟨⟨A, c, hc, hC, hb⟩, ho, hg⟩ := h
  exact ⟨⟨A, c, hc, hC, h1.trans hb⟩, own_move ho h2, hg⟩

theorem Frs.move {w0 W W' : World} {wb : Nat} : ∀ {ps : List (Nat × Value)} {xs : List Fr}, Frs w0 W wb ps xs → (∀ p ∈ ps, W'.heap[p.1]? = W.heap[p.1]? ∧ ∀ k, p.2.ownBlock = some k → W'.heap[k]? = W.heap[k]?) → Frs w0 W' wb ps xs
  | [], [], _, _ => trivial
  | p :: ps, x :: xs, h, hm => by
    obtain ⟨hf, hn, ha, hr⟩ := h
    exact ⟨hf.move (hm p (by simp)).1 (hm p (by simp)).2, hn, ha, Frs.move hr fun q hq => hm q (by simp [hq])⟩

/-- What lies where, of a frame below. -/
theorem Frs.typed {w0 W : World} {wb : Nat} : ∀ {ps : List (Nat × Value)} {xs : List Fr}, Frs w0 W wb ps xs → ∀ p ∈ ps, (∃ cs, W.heap[p.1]? = some (.cells cs 67 (0, 0))) ∧ (∀ k, p.2.ownBlock = some k → k ≠ wb ∧ k < W.heap.size ∧ ∃ cs, W.heap[k]? = some (.cells cs 22 (0, 0))) ∧ w0.heap.size ≤ p.1
  | [], [], _ => by simp
  | p :: ps, x :: xs, h => by
    obtain ⟨hf, hn, ha, hr⟩ := h
    intro q hq
    rcases List.mem_cons.1 hq with rfl | hq
    · obtain ⟨A, c, _, _, hb⟩ := hf.blk
      refine ⟨⟨_, hb⟩, fun k hk => ⟨fun e => hn (e ▸ hk), own_lt hf.own k hk, own_typed hf.own k hk⟩, hf.ge⟩
    · exact Frs.typed hr q hq

structure Mach (w0 W : World) (mb : Nat) (ps : List (Nat × Value)) (wb : Nat) (outv callsv : Value) (sw : Int) (SA : Option Addr) (sc : Nat) (fs : List S28) (m : Mc) : Prop where
  bel : Below w0.heap.size w0 W
  gem : w0.heap.size ≤ mb
  gew : w0.heap.size ≤ wb
  mblk : W.heap[mb]? = some (.cells #[.int .i64 sw, .slice SA fs.length sc, .string m.inp, .slice (some ⟨wb, 0, none⟩) m.words.length m.words.length, outv, callsv, .int .i64 m.end_] 61 (0, 0))
  wblk : W.heap[wb]? = some (.cells (nums .u32 m.words).toArray 22 (0, 0))
  out : W.ownsRow w0.heap.size 5 1 outv m.out.length (nums .u8 m.out)
  calls : W.ownsRow w0.heap.size 63 1 callsv ps.length (ps.reverse.map fun p => .pointer (some ⟨p.1, 0, none⟩))
  frs : Frs w0 W wb ps m.calls

theorem ty_ne {W : World} {i j : Nat} {t t' : TypeId} {cs cs' : Array Value} (h : W.heap[i]? = some (.cells cs t (0, 0))) (h' : W.heap[j]? = some (.cells cs' t' (0, 0))) (hne : t ≠ t') : i ≠ j := blk_ne h h' hne
theorem own_ne_blk {w : World} {base : Nat} {e t : TypeId} {size n g : Nat} {v : Value} {xs : List Value} {cs : Array Value} (h : w.ownsRow base e size v n xs) (hg : w.heap[g]? = some (.cells cs t (0, 0))) (hne : e ≠ t) {k : Nat} (hk : v.ownBlock = some k) : k ≠ g := by
  intro e'
  exact own_ne h hg hne (by rw [hk, e'])

section
variable {w0 W W' : World} {mb wb sc fb : Nat} {ps : List (Nat × Value)} {outv callsv v v1 : Value} {sw : Int} {SA : Option Addr} {fs : List S28} {m : Mc}

/-- The top frame changes: its block and its row. -/
theorem Mach.top {x x1 : Fr} {xs : List Fr} (h : Mach w0 W mb ((fb, v) :: ps) wb outv callsv sw SA sc fs m) (hm : m.calls = x :: xs) (hB : Below w0.heap.size w0 W') (hsz : W.heap.size ≤ W'.heap.size)
    (hS : ∀ i, i < W.heap.size → i ≠ fb → some i ≠ v.ownBlock → W'.heap[i]? = W.heap[i]?) (hf : FrameAt w0 W' fb v1 x1) (hat : v1.ownBlock = v.ownBlock ∨ ∃ b, v1.ownBlock = some b ∧ W.heap.size ≤ b) :
    Mach w0 W' mb ((fb, v1) :: ps) wb outv callsv sw SA sc fs { m with calls := x1 :: xs } := by
  have hfr := h.frs
  rw [hm] at hfr
  obtain ⟨h1, h2, h3, h4⟩ := hfr
  obtain ⟨A0, c0, _, _, hb0⟩ := h1.blk
  have hty := Frs.typed h4
  have wlt := blk_lt h.wblk
  refine ⟨hB, h.gem, h.gew, ?_, ?_, ?_, ?_, ?_⟩
  · rw [hS mb (blk_lt h.mblk) (ty_ne h.mblk hb0 (by decide)) (own_ne h1.own h.mblk (by decide))]
    exact h.mblk
  · rw [hS wb wlt (ty_ne h.wblk hb0 (by decide)) (fun e => h2 e.symm)]
    exact h.wblk
  · refine own_move h.out fun k hk => hS k (own_lt h.out k hk) (own_ne_blk h.out hb0 (by decide) hk) ?_
    rcases own_type_ne h.out h1.own (by decide) with e | e
    · rw [e] at hk; cases hk
    · rw [← hk]; exact e
  · refine own_move (by simpa using h.calls) fun k hk => hS k (own_lt h.calls k hk) (own_ne_blk h.calls hb0 (by decide) hk) ?_
    rcases own_type_ne h.calls h1.own (by decide) with e | e
    · rw [e] at hk; cases hk
    · rw [← hk]; exact e
  · refine ⟨hf, ?_, ?_, ?_⟩
    · rcases hat with e | ⟨b, e, hb⟩
      · rw [e]; exact h2
      · rw [e]; intro e'; injection e' with e'; omega
    · intro q hq
      refine ⟨(h3 q hq).1, ?_⟩
      rcases hat with e | ⟨b, e, hb⟩
      · rw [e]; exact (h3 q hq).2
      · right
        rw [e]
        intro e'
        have := ((hty q hq).2.1 b e').2.1
        omega
    · refine Frs.move h4 fun q hq => ?_
      obtain ⟨⟨cs, hq1⟩, hq2, _⟩ := hty q hq
      refine ⟨hS q.1 (blk_lt hq1) (h3 q hq).1 (own_ne h1.own hq1 (by decide)), fun k hk => ?_⟩
      obtain ⟨_, hk2, cs', hk3⟩ := hq2 k hk
      refine hS k hk2 (ty_ne hk3 hb0 (by decide)) ?_
      rcases (h3 q hq).2 with e | e
      · rw [e]; simp
      · rw [← hk]; exact e

/-- The machine's own block changes. -/
theorem Mach.own_ (h : Mach w0 W mb ps wb outv callsv sw SA sc fs m) (hB : Below w0.heap.size w0 W') (hS : ∀ i, i < W.heap.size → i ≠ mb → W'.heap[i]? = W.heap[i]?) (inp : ByteArray) (e : Int)
    (hb : W'.heap[mb]? = some (.cells #[.int .i64 sw, .slice SA fs.length sc, .string inp, .slice (some ⟨wb, 0, none⟩) m.words.length m.words.length, outv, callsv, .int .i64 e] 61 (0, 0))) :
    Mach w0 W' mb ps wb outv callsv sw SA sc fs { m with inp := inp, end_ := e } := by
  have hty := Frs.typed h.frs
  refine ⟨hB, h.gem, h.gew, hb, ?_, ?_, ?_, ?_⟩
  · rw [hS wb (blk_lt h.wblk) (ty_ne h.wblk h.mblk (by decide))]; exact h.wblk
  · exact own_move h.out fun k hk => hS k (own_lt h.out k hk) (own_ne_blk h.out h.mblk (by decide) hk)
  · exact own_move h.calls fun k hk => hS k (own_lt h.calls k hk) (own_ne_blk h.calls h.mblk (by decide) hk)
  · refine Frs.move h.frs fun q hq => ?_
    obtain ⟨⟨cs, hq1⟩, hq2, _⟩ := hty q hq
    refine ⟨hS q.1 (blk_lt hq1) (ty_ne hq1 h.mblk (by decide)), fun k hk => ?_⟩
    obtain ⟨_, hk2, cs', hk3⟩ := hq2 k hk
    exact hS k hk2 (ty_ne hk3 h.mblk (by decide))

/-- The words change. -/
theorem Mach.wset (h : Mach w0 W mb ps wb outv callsv sw SA sc fs m) (hB : Below w0.heap.size w0 W') (hS : ∀ i, i < W.heap.size → i ≠ wb → W'.heap[i]? = W.heap[i]?) (ws : List Int) (hl : ws.length = m.words.length)
    (hb : W'.heap[wb]? = some (.cells (nums .u32 ws).toArray 22 (0, 0))) : Mach w0 W' mb ps wb outv callsv sw SA sc fs { m with words := ws } := by
  have hty := Frs.typed h.frs
  refine ⟨hB, h.gem, h.gew, ?_, hb, ?_, ?_, ?_⟩
  · rw [hS mb (blk_lt h.mblk) (ty_ne h.mblk h.wblk (by decide))]
    simp only [hl]
    exact h.mblk
  · exact own_move h.out fun k hk => hS k (own_lt h.out k hk) (own_ne_blk h.out h.wblk (by decide) hk)
  · exact own_move h.calls fun k hk => hS k (own_lt h.calls k hk) (own_ne_blk h.calls h.wblk (by decide) hk)
  · refine Frs.move h.frs fun q hq => ?_
    obtain ⟨⟨cs, hq1⟩, hq2, _⟩ := hty q hq
    refine ⟨hS q.1 (blk_lt hq1) (ty_ne hq1 h.wblk (by decide)), fun k hk => ?_⟩
    obtain ⟨hk1, hk2, _⟩ := hq2 k hk
    exact hS k hk2 hk1

/-- The output grows: the machine's block and the output's row. -/
theorem Mach.outset (h : Mach w0 W mb ps wb outv callsv sw SA sc fs m) (hB : Below w0.heap.size w0 W') (hS : ∀ i, i < W.heap.size → i ≠ mb → some i ≠ outv.ownBlock → W'.heap[i]? = W.heap[i]?) (out : List Int) (outv1 : Value)
    (hb : W'.heap[mb]? = some (.cells #[.int .i64 sw, .slice SA fs.length sc, .string m.inp, .slice (some ⟨wb, 0, none⟩) m.words.length m.words.length, outv1, callsv, .int .i64 m.end_] 61 (0, 0)))
    (ho : W'.ownsRow w0.heap.size 5 1 outv1 out.length (nums .u8 out)) : Mach w0 W' mb ps wb outv1 callsv sw SA sc fs { m with out := out } := by
  have hty := Frs.typed h.frs
  refine ⟨hB, h.gem, h.gew, hb, ?_, ho, ?_, ?_⟩
  · rw [hS wb (blk_lt h.wblk) (ty_ne h.wblk h.mblk (by decide)) (own_ne h.out h.wblk (by decide))]; exact h.wblk
  · refine own_move h.calls fun k hk => hS k (own_lt h.calls k hk) (own_ne_blk h.calls h.mblk (by decide) hk) ?_
    rcases own_type_ne h.calls h.out (by decide) with e | e
    · rw [e] at hk; cases hk
    · rw [← hk]; exact e
  · refine Frs.move h.frs fun q hq => ?_
    obtain ⟨⟨cs, hq1⟩, hq2, _⟩ := hty q hq
    refine ⟨hS q.1 (blk_lt hq1) (ty_ne hq1 h.mblk (by decide)) (own_ne h.out hq1 (by decide)), fun k hk => ?_⟩
    obtain ⟨_, hk2, cs', hk3⟩ := hq2 k hk
    exact hS k hk2 (ty_ne hk3 h.mblk (by decide)) (own_ne h.out hk3 (by decide))

/-- The calls change: the machine's block and the calls' row; the frames below (qs, xs) stay, a new one may come on top. -/
theorem Mach.callset (h : Mach w0 W mb ps wb outv callsv sw SA sc fs m) (hB : Below w0.heap.size w0 W') (hsz : W.heap.size ≤ W'.heap.size) (hS : ∀ i, i < W.heap.size → i ≠ mb → some i ≠ callsv.ownBlock → W'.heap[i]? = W.heap[i]?)
    (callsv1 : Value) (qs : List (Nat × Value)) (xs : List Fr)
    (hb : W'.heap[mb]? = some (.cells #[.int .i64 sw, .slice SA fs.length sc, .string m.inp, .slice (some ⟨wb, 0, none⟩) m.words.length m.words.length, outv, callsv1, .int .i64 m.end_] 61 (0, 0)))
    (ho : W'.ownsRow w0.heap.size 63 1 callsv1 qs.length (qs.reverse.map fun p => .pointer (some ⟨p.1, 0, none⟩))) (hf : Frs w0 W' wb qs xs) : Mach w0 W' mb qs wb outv callsv1 sw SA sc fs { m with calls := xs } := by
  refine ⟨hB, h.gem, h.gew, hb, ?_, ?_, ho, hf⟩
  · rw [hS wb (blk_lt h.wblk) (ty_ne h.wblk h.mblk (by decide)) (own_ne h.calls h.wblk (by decide))]; exact h.wblk
  · refine own_move h.out fun k hk => hS k (own_lt h.out k hk) (own_ne_blk h.out h.mblk (by decide) hk) ?_
    rcases own_type_ne h.out h.calls (by decide) with e | e
    · rw [e] at hk; cases hk
    · rw [← hk]; exact e

/-- Under such a change the frames stay. -/
theorem Mach.frs_stay (h : Mach w0 W mb ps wb outv callsv sw SA sc fs m) (hS : ∀ i, i < W.heap.size → i ≠ mb → some i ≠ callsv.ownBlock → W'.heap[i]? = W.heap[i]?) : Frs w0 W' wb ps m.calls := by
  have hty := Frs.typed h.frs
  refine Frs.move h.frs fun q hq => ?_
  obtain ⟨⟨cs, hq1⟩, hq2, _⟩ := hty q hq
  refine ⟨hS q.1 (blk_lt hq1) (ty_ne hq1 h.mblk (by decide)) (own_ne h.calls hq1 (by decide)), fun k hk => ?_⟩
  obtain ⟨_, hk2, cs', hk3⟩ := hq2 k hk
  exact hS k hk2 (ty_ne hk3 h.mblk (by decide)) (own_ne h.calls hk3 (by decide))

/-- The blocks in which nothing of the machine lies may be made, and the tape drawn from. -/
theorem Mach.later (h : Mach w0 W mb ps wb outv callsv sw SA sc fs m) (hb : Below W.heap.size W W') : Mach w0 W' mb ps wb outv callsv sw SA sc fs m := by
  refine ⟨below_then h.bel h.bel.size hb, h.gem, h.gew, blk_below h.mblk hb, blk_below h.wblk hb, pw_own_below h.out hb, pw_own_below h.calls hb, ?_⟩
  have hty := Frs.typed h.frs
  refine Frs.move h.frs fun q hq => ?_
  obtain ⟨⟨cs, hq1⟩, hq2, _⟩ := hty q hq
  exact ⟨hb.block _ (blk_lt hq1), fun k hk => hb.block _ (hq2 k hk).2.1⟩
end

/-- A machine lies in W, somewhere behind w0, at mb. -/
def Ok (w0 : World) (mb wb : Nat) (sw : Int) (SA : Option Addr) (sc : Nat) (fs : List S28) (m : Mc) (W : World) : Prop := ∃ ps outv callsv, Mach w0 W mb ps wb outv callsv sw SA sc fs m
end Go.Proofs.Ytlngcolnjgloaaa
