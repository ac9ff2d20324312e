/- The stack machine's memory: how a plain machine (words, input, output, calls) lies in the blocks of stack.Run, and what a change of one block leaves. Conditions: none. -/
import Derived.Test.YtlngcolnjgloaaaPStackRunsx2
import Derived.Lib.Hide
import Derived.WalkSpells
import Derived.WalkLawsBesides
import Derived.StillTailTactics
import Derived.IntWalk
import Derived.Laws.CopyOwn
namespace Go.Proofs.Ytlngcolnjgloaaa
open Go.RowKit Go.Proofs.YtlngcolnjgloaaaW.PrintWords PStackRuns
set_option linter.unusedVariables false
set_option linter.unusedSimpArgs false

/-- A call in the midst: its function, where it goes on, its stack (the top first). -/
structure Fr where
  f : S28
  at_ : Int
  l : List Int
/-- A run in the midst. -/
structure Mc where
  words : List Int
  inp : ByteArray
  out : List Int
  calls : List Fr
  end_ : Int

structure FrameAt (w0 W : World) (fb : Nat) (v : Value) (x : Fr) : Prop where
  blk : ∃ A c, x.f.f4.length ≤ c ∧ k25.C w0 A x.f.f4.length x.f.f4 ∧ W.heap[fb]? = some (.cells #[.int .i64 x.f.f0, .int .i64 x.f.f1, .int .i64 x.f.f2, .bool x.f.f3, .slice A x.f.f4.length c, .int .i64 x.at_, v] 67 (0, 0))
  own : W.ownsRow w0.heap.size 22 1 v x.l.length (nums .u32 x.l.reverse)
  ge : w0.heap.size ≤ fb

def Frs (w0 W : World) (wb : Nat) : List (Nat × Value) → List Fr → Prop
  | [], [] => True
  | p :: ps, x :: xs => FrameAt w0 W p.1 p.2 x ∧ p.2.ownBlock ≠ some wb ∧ (∀ q ∈ ps, q.1 ≠ p.1 ∧ (p.2.ownBlock = none ∨ q.2.ownBlock ≠ p.2.ownBlock)) ∧ Frs w0 W wb ps xs
  | _, _ => False

theorem Frs.len {w0 W : World} {wb : Nat} : ∀ {ps : List (Nat × Value)} {xs : List Fr}, Frs w0 W wb ps xs → ps.length = xs.length
  | [], [], _ => rfl
  | p :: ps, x :: xs, h => by simp [Frs.len h.2.2.2]

theorem FrameAt.move {w0 W W' : World} {fb : Nat} {v : Value} {x : Fr} (h : FrameAt w0 W fb v x) (h1 : W'.heap[fb]? = W.heap[fb]?) (h2 : ∀ k, v.ownBlock = some k → W'.heap[k]? = W.heap[k]?) : FrameAt w0 W' fb v x := by
  obtain ⟨⟨A, c, hc, hC, hb⟩, ho, hg⟩ := h
  exact ⟨⟨A, c, hc, hC, h1.trans hb⟩, own_move ho h2, hg⟩

theorem Frs.move {w0 W W' : World} {wb : Nat} : ∀ {ps : List (Nat × Value)} {xs : List Fr}, Frs w0 W wb ps xs → (∀ p ∈ ps, W'.heap[p.1]? = W.heap[p.1]? ∧ ∀ k, p.2.ownBlock = some k → W'.heap[k]? = W.heap[k]?) → Frs w0 W' wb ps xs
  | [], [], _, _ => trivial
  | p :: ps, x :: xs, h, hm => by
    obtain ⟨hf, hn, ha, hr⟩ := h
    exact ⟨hf.move (hm p (by simp)).1 (hm p (by simp)).2, hn, ha, Frs.move hr fun q hq => hm q (by simp [hq])⟩

/-- What lies where, of a frame below. -/
theorem Frs.typed {w0 W : World} {wb : Nat} : ∀ {ps : List (Nat × Value)} {xs : List Fr}, Frs w0 W wb ps xs → ∀ p ∈ ps, (∃ cs, W.heap[p.1]? = some (.cells cs 67 (0, 0))) ∧ (∀ k, p.2.ownBlock = some k → k ≠ wb ∧ k < W.heap.size ∧ ∃ cs, W.heap[k]? = some (.cells cs 22 (0, 0))) ∧ w0.heap.size ≤ p.1
  | [], [], _ => by simp
  | p :: ps, x :: xs, h => by
    obtain ⟨hf, hn, ha, hr⟩ := h
    intro q hq
    rcases List.mem_cons.1 hq with rfl | hq
    · obtain ⟨A, c, _, _, hb⟩ := hf.blk
      refine ⟨⟨_, hb⟩, fun k hk => ⟨fun e => hn (e ▸ hk), own_lt hf.own k hk, own_typed hf.own k hk⟩, hf.ge⟩
    · exact Frs.typed hr q hq

structure Mach (w0 W : World) (mb : Nat) (ps : List (Nat × Value)) (wb : Nat) (outv callsv : Value) (sw : Int) (SA : Option Addr) (sc : Nat) (fs : List S28) (m : Mc) : Prop where
  bel : Below w0.heap.size w0 W
  gem : w0.heap.size ≤ mb
  gew : w0.heap.size ≤ wb
  mblk : W.heap[mb]? = some (.cells #[.int .i64 sw, .slice SA fs.length sc, .string m.inp, .slice (some ⟨wb, 0, none⟩) m.words.length m.words.length, outv, callsv, .int .i64 m.end_] 61 (0, 0))
  wblk : W.heap[wb]? = some (.cells (nums .u32 m.words).toArray 22 (0, 0))
  out : W.ownsRow w0.heap.size 5 1 outv m.out.length (nums .u8 m.out)
  calls : W.ownsRow w0.heap.size 63 1 callsv ps.length (ps.reverse.map fun p => .pointer (some ⟨p.1, 0, none⟩))
  frs : Frs w0 W wb ps m.calls

theorem ty_ne {W : World} {i j : Nat} {t t' : TypeId} {cs cs' : Array Value} (h : W.heap[i]? = some (.cells cs t (0, 0))) (h' : W.heap[j]? = some (.cells cs' t' (0, 0))) (hne : t ≠ t') : i ≠ j := blk_ne h h' hne
theorem own_ne_blk {w : World} {base : Nat} {e t : TypeId} {size n g : Nat} {v : Value} {xs : List Value} {cs : Array Value} (h : w.ownsRow base e size v n xs) (hg : w.heap[g]? = some (.cells cs t (0, 0))) (hne : e ≠ t) {k : Nat} (hk : v.ownBlock = some k) : k ≠ g := by
  intro e'
  exact own_ne h hg hne (by rw [hk, e'])

section
variable {w0 W W' : World} {mb wb sc fb : Nat} {ps : List (Nat × Value)} {outv callsv v v1 : Value} {sw : Int} {SA : Option Addr} {fs : List S28} {m : Mc}

/-- The top frame changes: its block and its row. -/
theorem Mach.top {x x1 : Fr} {xs : List Fr} (h : Mach w0 W mb ((fb, v) :: ps) wb outv callsv sw SA sc fs m) (hm : m.calls = x :: xs) (hB : Below w0.heap.size w0 W') (hsz : W.heap.size ≤ W'.heap.size)
    (hS : ∀ i, i < W.heap.size → i ≠ fb → some i ≠ v.ownBlock → W'.heap[i]? = W.heap[i]?) (hf : FrameAt w0 W' fb v1 x1) (hat : v1.ownBlock = v.ownBlock ∨ ∃ b, v1.ownBlock = some b ∧ W.heap.size ≤ b) :
    Mach w0 W' mb ((fb, v1) :: ps) wb outv callsv sw SA sc fs { m with calls := x1 :: xs } := by
  have hfr := h.frs
  rw [hm] at hfr
  obtain ⟨h1, h2, h3, h4⟩ := hfr
  obtain ⟨A0, c0, _, _, hb0⟩ := h1.blk
  have hty := Frs.typed h4
  have wlt := blk_lt h.wblk
  refine ⟨hB, h.gem, h.gew, ?_, ?_, ?_, ?_, ?_⟩
  · rw [hS mb (blk_lt h.mblk) (ty_ne h.mblk hb0 (by decide)) (own_ne h1.own h.mblk (by decide))]
    exact h.mblk
  · rw [hS wb wlt (ty_ne h.wblk hb0 (by decide)) (fun e => h2 e.symm)]
    exact h.wblk
  · refine own_move h.out fun k hk => hS k (own_lt h.out k hk) (own_ne_blk h.out hb0 (by decide) hk) ?_
    rcases own_type_ne h.out h1.own (by decide) with e | e
    · rw [e] at hk; cases hk
    · rw [← hk]; exact e
  · refine own_move (by simpa using h.calls) fun k hk => hS k (own_lt h.calls k hk) (own_ne_blk h.calls hb0 (by decide) hk) ?_
    rcases own_type_ne h.calls h1.own (by decide) with e | e
    · rw [e] at hk; cases hk
    · rw [← hk]; exact e
  · refine ⟨hf, ?_, ?_, ?_⟩
    · rcases hat with e | ⟨b, e, hb⟩
      · rw [e]; exact h2
      · rw [e]; intro e'; injection e' with e'; omega
    · intro q hq
      refine ⟨(h3 q hq).1, ?_⟩
      rcases hat with e | ⟨b, e, hb⟩
      · rw [e]; exact (h3 q hq).2
      · right
        rw [e]
        intro e'
        have := ((hty q hq).2.1 b e').2.1
        omega
    · refine Frs.move h4 fun q hq => ?_
      obtain ⟨⟨cs, hq1⟩, hq2, _⟩ := hty q hq
      refine ⟨hS q.1 (blk_lt hq1) (h3 q hq).1 (own_ne h1.own hq1 (by decide)), fun k hk => ?_⟩
      obtain ⟨_, hk2, cs', hk3⟩ := hq2 k hk
      refine hS k hk2 (ty_ne hk3 hb0 (by decide)) ?_
      rcases (h3 q hq).2 with e | e
      · rw [e]; simp
      · rw [← hk]; exact e

/-- The machine's own block changes. -/
theorem Mach.own_ (h : Mach w0 W mb ps wb outv callsv sw SA sc fs m) (hB : Below w0.heap.size w0 W') (hS : ∀ i, i < W.heap.size → i ≠ mb → W'.heap[i]? = W.heap[i]?) (inp : ByteArray) (e : Int)
    (hb : W'.heap[mb]? = some (.cells #[.int .i64 sw, .slice SA fs.length sc, .string inp, .slice (some ⟨wb, 0, none⟩) m.words.length m.words.length, outv, callsv, .int .i64 e] 61 (0, 0))) :
    Mach w0 W' mb ps wb outv callsv sw SA sc fs { m with inp := inp, end_ := e } := by
  have hty := Frs.typed h.frs
  refine ⟨hB, h.gem, h.gew, hb, ?_, ?_, ?_, ?_⟩
  · rw [hS wb (blk_lt h.wblk) (ty_ne h.wblk h.mblk (by decide))]; exact h.wblk
  · exact own_move h.out fun k hk => hS k (own_lt h.out k hk) (own_ne_blk h.out h.mblk (by decide) hk)
  · exact own_move h.calls fun k hk => hS k (own_lt h.calls k hk) (own_ne_blk h.calls h.mblk (by decide) hk)
  · refine Frs.move h.frs fun q hq => ?_
    obtain ⟨⟨cs, hq1⟩, hq2, _⟩ := hty q hq
    refine ⟨hS q.1 (blk_lt hq1) (ty_ne hq1 h.mblk (by decide)), fun k hk => ?_⟩
    obtain ⟨_, hk2, cs', hk3⟩ := hq2 k hk
    exact hS k hk2 (ty_ne hk3 h.mblk (by decide))

/-- The words change. -/
theorem Mach.wset (h : Mach w0 W mb ps wb outv callsv sw SA sc fs m) (hB : Below w0.heap.size w0 W') (hS : ∀ i, i < W.heap.size → i ≠ wb → W'.heap[i]? = W.heap[i]?) (ws : List Int) (hl : ws.length = m.words.length)
    (hb : W'.heap[wb]? = some (.cells (nums .u32 ws).toArray 22 (0, 0))) : Mach w0 W' mb ps wb outv callsv sw SA sc fs { m with words := ws } := by
  have hty := Frs.typed h.frs
  refine ⟨hB, h.gem, h.gew, ?_, hb, ?_, ?_, ?_⟩
  · rw [hS mb (blk_lt h.mblk) (ty_ne h.mblk h.wblk (by decide))]
    simp only [hl]
    exact h.mblk
  · exact own_move h.out fun k hk => hS k (own_lt h.out k hk) (own_ne_blk h.out h.wblk (by decide) hk)
  · exact own_move h.calls fun k hk => hS k (own_lt h.calls k hk) (own_ne_blk h.calls h.wblk (by decide) hk)
  · refine Frs.move h.frs fun q hq => ?_
    obtain ⟨⟨cs, hq1⟩, hq2, _⟩ := hty q hq
    refine ⟨hS q.1 (blk_lt hq1) (ty_ne hq1 h.wblk (by decide)), fun k hk => ?_⟩
    obtain ⟨hk1, hk2, _⟩ := hq2 k hk
    exact hS k hk2 hk1

/-- The output grows: the machine's block and the output's row. -/
theorem Mach.outset (h : Mach w0 W mb ps wb outv callsv sw SA sc fs m) (hB : Below w0.heap.size w0 W') (hS : ∀ i, i < W.heap.size → i ≠ mb → some i ≠ outv.ownBlock → W'.heap[i]? = W.heap[i]?) (out : List Int) (outv1 : Value)
    (hb : W'.heap[mb]? = some (.cells #[.int .i64 sw, .slice SA fs.length sc, .string m.inp, .slice (some ⟨wb, 0, none⟩) m.words.length m.words.length, outv1, callsv, .int .i64 m.end_] 61 (0, 0)))
    (ho : W'.ownsRow w0.heap.size 5 1 outv1 out.length (nums .u8 out)) : Mach w0 W' mb ps wb outv1 callsv sw SA sc fs { m with out := out } := by
  have hty := Frs.typed h.frs
  refine ⟨hB, h.gem, h.gew, hb, ?_, ho, ?_, ?_⟩
  · rw [hS wb (blk_lt h.wblk) (ty_ne h.wblk h.mblk (by decide)) (own_ne h.out h.wblk (by decide))]; exact h.wblk
  · refine own_move h.calls fun k hk => hS k (own_lt h.calls k hk) (own_ne_blk h.calls h.mblk (by decide) hk) ?_
    rcases own_type_ne h.calls h.out (by decide) with e | e
    · rw [e] at hk; cases hk
    · rw [← hk]; exact e
  · refine Frs.move h.frs fun q hq => ?_
    obtain ⟨⟨cs, hq1⟩, hq2, _⟩ := hty q hq
    refine ⟨hS q.1 (blk_lt hq1) (ty_ne hq1 h.mblk (by decide)) (own_ne h.out hq1 (by decide)), fun k hk => ?_⟩
    obtain ⟨_, hk2, cs', hk3⟩ := hq2 k hk
    exact hS k hk2 (ty_ne hk3 h.mblk (by decide)) (own_ne h.out hk3 (by decide))

/-- The calls change: the machine's block and the calls' row; the frames below (qs, xs) stay, a new one may come on top. -/
theorem Mach.callset (h : Mach w0 W mb ps wb outv callsv sw SA sc fs m) (hB : Below w0.heap.size w0 W') (hsz : W.heap.size ≤ W'.heap.size) (hS : ∀ i, i < W.heap.size → i ≠ mb → some i ≠ callsv.ownBlock → W'.heap[i]? = W.heap[i]?)
    (callsv1 : Value) (qs : List (Nat × Value)) (xs : List Fr)
    (hb : W'.heap[mb]? = some (.cells #[.int .i64 sw, .slice SA fs.length sc, .string m.inp, .slice (some ⟨wb, 0, none⟩) m.words.length m.words.length, outv, callsv1, .int .i64 m.end_] 61 (0, 0)))
    (ho : W'.ownsRow w0.heap.size 63 1 callsv1 qs.length (qs.reverse.map fun p => .pointer (some ⟨p.1, 0, none⟩))) (hf : Frs w0 W' wb qs xs) : Mach w0 W' mb qs wb outv callsv1 sw SA sc fs { m with calls := xs } := by
  refine ⟨hB, h.gem, h.gew, hb, ?_, ?_, ho, hf⟩
  · rw [hS wb (blk_lt h.wblk) (ty_ne h.wblk h.mblk (by decide)) (own_ne h.calls h.wblk (by decide))]; exact h.wblk
  · refine own_move h.out fun k hk => hS k (own_lt h.out k hk) (own_ne_blk h.out h.mblk (by decide) hk) ?_
    rcases own_type_ne h.out h.calls (by decide) with e | e
    · rw [e] at hk; cases hk
    · rw [← hk]; exact e

/-- Under such a change the frames stay. -/
theorem Mach.frs_stay (h : Mach w0 W mb ps wb outv callsv sw SA sc fs m) (hS : ∀ i, i < W.heap.size → i ≠ mb → some i ≠ callsv.ownBlock → W'.heap[i]? = W.heap[i]?) : Frs w0 W' wb ps m.calls := by
  have hty := Frs.typed h.frs
  refine Frs.move h.frs fun q hq => ?_
  obtain ⟨⟨cs, hq1⟩, hq2, _⟩ := hty q hq
  refine ⟨hS q.1 (blk_lt hq1) (ty_ne hq1 h.mblk (by decide)) (own_ne h.calls hq1 (by decide)), fun k hk => ?_⟩
  obtain ⟨_, hk2, cs', hk3⟩ := hq2 k hk
  exact hS k hk2 (ty_ne hk3 h.mblk (by decide)) (own_ne h.calls hk3 (by decide))

/-- The blocks in which nothing of the machine lies may be made, and the tape drawn from. -/
theorem Mach.later (h : Mach w0 W mb ps wb outv callsv sw SA sc fs m) (hb : Below W.heap.size W W') : Mach w0 W' mb ps wb outv callsv sw SA sc fs m := by
  refine ⟨below_then h.bel h.bel.size hb, h.gem, h.gew, blk_below h.mblk hb, blk_below h.wblk hb, pw_own_below h.out hb, pw_own_below h.calls hb, ?_⟩
  have hty := Frs.typed h.frs
  refine Frs.move h.frs fun q hq => ?_
  obtain ⟨⟨cs, hq1⟩, hq2, _⟩ := hty q hq
  exact ⟨hb.block _ (blk_lt hq1), fun k hk => hb.block _ (hq2 k hk).2.1⟩
end

/-- A machine lies in W, somewhere behind w0, at mb. -/
def Ok (w0 : World) (mb wb : Nat) (sw : Int) (SA : Option Addr) (sc : Nat) (fs : List S28) (m : Mc) (W : World) : Prop := ∃ ps outv callsv, Mach w0 W mb ps wb outv callsv sw SA sc fs m
end Go.Proofs.Ytlngcolnjgloaaa

/- The contracts of stack.pile's push, pop and take, over words and over frames. Conditions: rows below 2^47 bytes. -/
namespace Go.Proofs.Ytlngcolnjgloaaa
open Go.RowKit Go.Proofs.YtlngcolnjgloaaaW.PrintWords PStackRuns
set_option linter.unusedVariables false
set_option linter.unusedSimpArgs false

def isRet (e : Ending) : Prop := e = .returned (.tuple #[])
theorem info22 : (Try.prog.info? 22).map (fun i => (i.zero, i.size, i.bytes)) = some (some (.int .u32 0), 1, 4) := by kernel_rfl
theorem info63 : (Try.prog.info? 63).map (fun i => (i.zero, i.size, i.bytes)) = some (some (.pointer none), 1, 8) := by kernel_rfl

/-- A row (of elements of type e) that a cell holds has been written over: what is left. -/
structure Rowed (w0 W W' : World) (base b o : Nat) (cs : Array Value) (t e : TypeId) (v v1 : Value) (ys : List Value) : Prop where
  bel : Below base w0 W'
  size : W.heap.size ≤ W'.heap.size
  same : ∀ i, i < W.heap.size → i ≠ b → some i ≠ v.ownBlock → W'.heap[i]? = W.heap[i]?
  blk : W'.heap[b]? = some (.cells (cs.setIfInBounds o v1) t (0, 0))
  own : W'.ownsRow base e 1 v1 ys.length ys
  at_ : v1.ownBlock = v.ownBlock ∨ ∃ k, v1.ownBlock = some k ∧ W.heap.size ≤ k

theorem rowed_mk {w0 W W1 : World} {base b o : Nat} {cs : Array Value} {t e : TypeId} {v v1 : Value} {ys : List Value} (hb : W.heap[b]? = some (.cells cs t (0, 0))) (hbb : base ≤ b) (hnb : some b ≠ v.ownBlock)
    (hB : Below base w0 W1) (hg : W.grownBy W1 v.ownBlock) (ho : W1.ownsRow base e 1 v1 ys.length ys) (hat : v1.ownBlock = v.ownBlock ∨ ∃ k, v1.ownBlock = some k ∧ W.heap.size ≤ k) :
    Rowed w0 W (W1.setCell ⟨b, o, none⟩ v1) base b o cs t e v v1 ys := by
  have hb1 : W1.heap[b]? = some (.cells cs t (0, 0)) := blk_grown hb hg hnb
  refine ⟨hB.setCell (p := ⟨b, o, none⟩) hbb v1, ?_, ?_, blk_set hb1 o v1, ?_, hat⟩
  · have := hg.size
    simpa using this
  · intro i hi hib hiv
    rw [Below.heap_setCell _ _ _ _ (by exact hib)]
    exact hg.block i hi hiv
  · refine own_setCell ho ?_ v1
    rcases hat with e1 | ⟨k, e1, hk⟩
    · rw [e1]; exact hnb
    · rw [e1]
      intro e2
      have : b = k := by simpa using e2
      have := blk_lt hb
      omega

set_option maxHeartbeats 400000 in
theorem push_word {w0 W : World} {base b o : Nat} {cs : Array Value} {t : TypeId} {v : Value} {l : List Int} (x : Int) (hb : W.heap[b]? = some (.cells cs t (0, 0))) (hc : cs[o]? = some v) (hbb : base ≤ b) (ht : t ≠ 22)
    (hown : W.ownsRow base 22 1 v l.length (nums .u32 l)) (hB : Below base w0 W) (hbase : base ≤ W.heap.size) (hl : (l.length + 1) * 4 ≤ 140737488355328) :
    Calls Try.prog 32 #[.pointer (some ⟨b, o, none⟩), .int .u32 x] W fun e w' => isRet e ∧ ∃ v1, Rowed w0 W w' base b o cs t 22 v v1 (nums .u32 (l ++ [x])) := by
  have hnb : some b ≠ v.ownBlock := own_ne hown hb (Ne.symm ht)
  have c1 : W.cell? ⟨b, o, none⟩ = some v := by rw [blk_cell hb]; exact hc
  have HB := Lib.hid hB
  have HO := Lib.hid hown
  have HBK := Lib.hid hb
  have HNB := Lib.hid hnb
  have HCS := Lib.hid hc
  have HBB := Lib.hid hbb
  clear hB hown hb hnb hc hbb ht
  go_enter Try.func32, Try.ntmps32
  go_wp2_with (at_builtin; refine print_append_num base rfl (.tmp 8) (.tmp 10) 40 22 .u32 4 rfl Try.underlying40 info22 (by decide) v l x rfl rfl HO.out HB.out hbase hl ?_)
  intro v1 W1 hown1 hB1 hg1 hat
  have hb1 := blk_grown HBK.out hg1 HNB.out
  have c2 : W1.cell? ⟨b, o, none⟩ = some v := by rw [blk_cell hb1]; exact HCS.out
  have f2 : W1.frozen? ⟨b, o, none⟩ = false := blk_frozen hb1 o
  obtain ⟨g, cap, rfl, _, _⟩ := hown1.form (by simp)
  have HR := Lib.hid (rowed_mk (o := o) (ys := nums .u32 (l ++ [x])) HBK.out HBB.out HNB.out hB1 hg1 (by rw [nums_length, List.length_append]; exact hown1) hat)
  clear hown1 hB1 hg1 hat hb1 c1
  go_wp2_with fail

  go_end0
  exact ⟨rfl, _, by simpa using HR.out⟩

set_option maxHeartbeats 400000 in
theorem push_frame {w0 W : World} {base b o : Nat} {cs : Array Value} {t : TypeId} {v : Value} {l : List Value} (fb : Nat) (hb : W.heap[b]? = some (.cells cs t (0, 0))) (hc : cs[o]? = some v) (hbb : base ≤ b) (ht : t ≠ 63)
    (hown : W.ownsRow base 63 1 v l.length l) (hB : Below base w0 W) (hbase : base ≤ W.heap.size) (hl : (l.length + 1) * 8 ≤ 140737488355328) :
    Calls Try.prog 31 #[.pointer (some ⟨b, o, none⟩), .pointer (some ⟨fb, 0, none⟩)] W fun e w' => isRet e ∧ ∃ v1, Rowed w0 W w' base b o cs t 63 v v1 (l ++ [.pointer (some ⟨fb, 0, none⟩)]) := by
  have hnb : some b ≠ v.ownBlock := own_ne hown hb (Ne.symm ht)
  have c1 : W.cell? ⟨b, o, none⟩ = some v := by rw [blk_cell hb]; exact hc
  have HB := Lib.hid hB
  have HO := Lib.hid hown
  have HBK := Lib.hid hb
  have HNB := Lib.hid hnb
  have HCS := Lib.hid hc
  have HBB := Lib.hid hbb
  clear hB hown hb hnb hc hbb ht
  go_enter Try.func31, Try.ntmps31
  go_wp2_with (at_builtin; refine print_append base rfl (.tmp 8) (.tmp 10) 57 63 (.pointer none) 8 rfl Try.underlying57 info63 rfl (by decide) v l (.pointer (some ⟨fb, 0, none⟩)) rfl rfl rfl HO.out HB.out hbase hl ?_)
  intro v1 W1 hown1 hB1 hg1 hat
  have hb1 := blk_grown HBK.out hg1 HNB.out
  have c2 : W1.cell? ⟨b, o, none⟩ = some v := by rw [blk_cell hb1]; exact HCS.out
  have f2 : W1.frozen? ⟨b, o, none⟩ = false := blk_frozen hb1 o
  obtain ⟨g, cap, rfl, _, _⟩ := hown1.form (by simp)
  have HR := Lib.hid (rowed_mk (o := o) (ys := l ++ [.pointer (some ⟨fb, 0, none⟩)]) HBK.out HBB.out HNB.out hB1 hg1 (by rw [List.length_append]; exact hown1) hat)
  clear hown1 hB1 hg1 hat hb1 c1
  go_wp2_with fail
  go_end0
  exact ⟨rfl, _, by simpa using HR.out⟩

theorem rowed_set {w0 W W1 : World} {base b o : Nat} {cs : Array Value} {t e : TypeId} {v v1 : Value} {ys : List Value} (hb : W.heap[b]? = some (.cells cs t (0, 0))) (hbb : base ≤ b) (hnb : some b ≠ v.ownBlock)
    (hB : Below base w0 W1) (hw : W1.heap = W.heap) (ho : W.ownsRow base e 1 v1 ys.length ys) (hat : v1.ownBlock = v.ownBlock) :
    Rowed w0 W (W1.setCell ⟨b, o, none⟩ v1) base b o cs t e v v1 ys := by
  have hb1 : W1.heap[b]? = some (.cells cs t (0, 0)) := by rw [hw]; exact hb
  have ho1 : W1.ownsRow base e 1 v1 ys.length ys := own_move ho (fun k _ => by rw [hw])
  refine ⟨hB.setCell (p := ⟨b, o, none⟩) hbb v1, ?_, ?_, blk_set hb1 o v1, ?_, .inl hat⟩
  · have : W1.heap.size = W.heap.size := by rw [hw]
    simp [this]
  · intro i hi hib hiv
    rw [Below.heap_setCell _ _ _ _ (by exact hib), hw]
  · exact own_setCell ho1 (by rw [hat]; exact hnb) v1

set_option maxHeartbeats 1000000 in
set_option maxRecDepth 100000 in
theorem pop_word {w0 W : World} {base b o : Nat} {cs : Array Value} {t : TypeId} {v : Value} {l : List Int} {x : Int} (hb : W.heap[b]? = some (.cells cs t (0, 0))) (hc : cs[o]? = some v) (hbb : base ≤ b) (ht : t ≠ 22)
    (hown : W.ownsRow base 22 1 v (l ++ [x]).length (nums .u32 (l ++ [x]))) (hB : Below base w0 W) :
    Calls Try.prog 33 #[.pointer (some ⟨b, o, none⟩)] W fun e w' => e = .returned (.int .u32 x) ∧ ∃ v1, Rowed w0 W w' base b o cs t 22 v v1 (nums .u32 l) := by
  have hnb : some b ≠ v.ownBlock := own_ne hown hb (Ne.symm ht)
  have c1 : W.cell? ⟨b, o, none⟩ = some v := by rw [blk_cell hb]; exact hc
  have f1 : W.frozen? ⟨b, o, none⟩ = false := blk_frozen hb o
  obtain ⟨g, cap, rfl, _, _⟩ := hown.form (by simp)
  have hcap := own_cap hown
  have hcap2 : cap ≤ 9223372036854775807 := by
    rcases hown.2 with ⟨h, _⟩ | ⟨_, _, _, h, _, _, _, hm, _⟩
    · cases h
    · cases h; simpa [maxLen] using hm
  obtain ⟨c2, _⟩ := own_at hown (l.length : Int) (by omega) (by simp only [List.length_append, List.length_singleton]; omega)
  have e0 : rd (l ++ [x]) (l.length : Int) = x := by simp [rd]
  rw [e0, Int.toNat_natCast] at c2
  have hown1 := own_take (m := l.length) hown (by simp)
  have e1 : (nums .u32 (l ++ [x])).take (l.length * 1) = nums .u32 l := by simp [nums]
  rw [e1] at hown1
  have hlen : (l ++ [x]).length = l.length + 1 := by simp
  rw [hlen] at c1 hcap
  obtain ⟨n, hn⟩ : ∃ n, n = l.length := ⟨_, rfl⟩
  have HR := Lib.hid (show ∀ W1 : World, W1.heap = W.heap → Below base w0 W1 → Rowed w0 W (W1.setCell ⟨b, o, none⟩ (.slice (some ⟨g, 0, none⟩) n cap)) base b o cs t 22 (.slice (some ⟨g, 0, none⟩) (l ++ [x]).length cap) (.slice (some ⟨g, 0, none⟩) n cap) (nums .u32 l) from by
    intro W1 hw hB1
    rw [hn]
    exact rowed_set hb hbb hnb hB1 hw (by rw [nums_length]; exact hown1) rfl)
  have HB := Lib.hid hB
  have HL := Lib.hid hlen
  rw [← hn] at c1 c2 hcap
  have b0 : (0 : Int) ≤ n := by omega
  have b1 : (n : Int) ≤ cap := by omega
  have b2 : (n : Int) + 1 ≤ cap := by omega
  have b3 : (cap : Int) ≤ 9223372036854775807 := by omega
  clear hb hc hbb ht hown hB hnb hown1 hlen e0 e1 hn hcap hcap2
  go_enter Try.func33, Try.ntmps33
  go_wp2_with fail
  go_quiet (fail)
  go_wp2_with fail
  obtain ⟨W3, hW3⟩ : ∃ W3 : World, W3 = { W.drewN nq with drawn := (W.drewN nq).drawn + 1 } := ⟨_, rfl⟩
  have HD := Lib.hid (show W3.heap = W.heap ∧ Below base w0 W3 from by rw [hW3]; exact ⟨rfl, below_drew (pw_below_drewN HB.out nq)⟩)
  have c4 : W3.cell? ⟨b, o, none⟩ = some (.slice (some ⟨g, 0, none⟩) (n + 1) cap) := by rw [hW3]; exact c1
  have f4 : W3.frozen? ⟨b, o, none⟩ = false := by rw [hW3]; exact f1
  refine wp_region_still_tail 12 (by kernel_rfl) (by kernel_rfl) ?_
  rw [← hW3]
  clear hW3 c1 c2 f1
  simp only [List.take_succ_cons, List.take_zero, List.drop_succ_cons, List.drop_zero]
  have wn : IntKind.i64.wrap (n : Int) = n := IntWalk.i64_in _ (by omega)
  repeat still_step
  clear wn
  refine wpStill_nil ?_
  go_wp2_with fail
  go_ret
  exact ⟨rfl, _, by have h := HR.out W3 HD.out.1 HD.out.2; simpa using h⟩

set_option maxHeartbeats 1000000 in
set_option maxRecDepth 100000 in
theorem pop_frame {w0 W : World} {base b o : Nat} {cs : Array Value} {t : TypeId} {v : Value} {l : List Value} {x : Nat} (hb : W.heap[b]? = some (.cells cs t (0, 0))) (hc : cs[o]? = some v) (hbb : base ≤ b) (ht : t ≠ 63)
    (hown : W.ownsRow base 63 1 v (l ++ [Value.pointer (some ⟨x, 0, none⟩)]).length (l ++ [.pointer (some ⟨x, 0, none⟩)])) (hB : Below base w0 W) :
    Calls Try.prog 52 #[.pointer (some ⟨b, o, none⟩)] W fun e w' => e = .returned (.pointer (some ⟨x, 0, none⟩)) ∧ ∃ v1, Rowed w0 W w' base b o cs t 63 v v1 l := by
  have hnb : some b ≠ v.ownBlock := own_ne hown hb (Ne.symm ht)
  have c1 : W.cell? ⟨b, o, none⟩ = some v := by rw [blk_cell hb]; exact hc
  have f1 : W.frozen? ⟨b, o, none⟩ = false := blk_frozen hb o
  obtain ⟨g, cap, rfl, _, _⟩ := hown.form (by simp)
  have hcap := own_cap hown
  have hcap2 : cap ≤ 9223372036854775807 := by
    rcases hown.2 with ⟨h, _⟩ | ⟨_, _, _, h, _, _, _, hm, _⟩
    · cases h
    · cases h; simpa [maxLen] using hm
  have c2 := hown.cells rfl l.length (.pointer (some ⟨x, 0, none⟩)) (by simp)
  rw [add_plain] at c2
  have hown1 := own_take (m := l.length) hown (by simp)
  have e1 : (l ++ [Value.pointer (some ⟨x, 0, none⟩)]).take (l.length * 1) = l := by simp
  rw [e1] at hown1
  have hlen : (l ++ [Value.pointer (some ⟨x, 0, none⟩)]).length = l.length + 1 := by simp
  rw [hlen] at c1 hcap
  obtain ⟨n, hn⟩ : ∃ n, n = l.length := ⟨_, rfl⟩
  have HR := Lib.hid (show ∀ W1 : World, W1.heap = W.heap → Below base w0 W1 → Rowed w0 W (W1.setCell ⟨b, o, none⟩ (.slice (some ⟨g, 0, none⟩) n cap)) base b o cs t 63 (.slice (some ⟨g, 0, none⟩) (l ++ [Value.pointer (some ⟨x, 0, none⟩)]).length cap) (.slice (some ⟨g, 0, none⟩) n cap) l from by
    intro W1 hw hB1
    rw [hn]
    exact rowed_set hb hbb hnb hB1 hw hown1 rfl)
  have HB := Lib.hid hB
  have HL := Lib.hid hlen
  rw [← hn] at c1 c2 hcap
  have b0 : (0 : Int) ≤ n := by omega
  have b1 : (n : Int) ≤ cap := by omega
  have b2 : (n : Int) + 1 ≤ cap := by omega
  have b3 : (cap : Int) ≤ 9223372036854775807 := by omega
  clear hb hc hbb ht hown hB hnb hown1 hlen e1 hn hcap hcap2
  go_enter Try.func52, Try.ntmps52
  go_wp2_with fail
  go_quiet (fail)
  go_wp2_with fail
  obtain ⟨W3, hW3⟩ : ∃ W3 : World, W3 = { W.drewN nq with drawn := (W.drewN nq).drawn + 1 } := ⟨_, rfl⟩
  have HD := Lib.hid (show W3.heap = W.heap ∧ Below base w0 W3 from by rw [hW3]; exact ⟨rfl, below_drew (pw_below_drewN HB.out nq)⟩)
  have c4 : W3.cell? ⟨b, o, none⟩ = some (.slice (some ⟨g, 0, none⟩) (n + 1) cap) := by rw [hW3]; exact c1
  have f4 : W3.frozen? ⟨b, o, none⟩ = false := by rw [hW3]; exact f1
  refine wp_region_still_tail 12 (by kernel_rfl) (by kernel_rfl) ?_
  rw [← hW3]
  clear hW3 c1 c2 f1
  simp only [List.take_succ_cons, List.take_zero, List.drop_succ_cons, List.drop_zero]
  have wn : IntKind.i64.wrap (n : Int) = n := IntWalk.i64_in _ (by omega)
  repeat still_step
  clear wn
  refine wpStill_nil ?_
  go_wp2_with fail
  go_ret
  exact ⟨rfl, _, by have h := HR.out W3 HD.out.1 HD.out.2; simpa using h⟩

set_option maxHeartbeats 1000000 in
theorem clone_word {W : World} {A : Option Addr} {n c : Nat} {args : List Int} (hr : ReadsInt W .u32 A n args) (hb : n * 4 ≤ 140737488355328) :
    Calls Try.prog 51 #[.slice A n c] W fun e w' => ∃ r, e = .returned r ∧ Below W.heap.size W w' ∧ w'.ownsRow W.heap.size 22 1 r n (nums .u32 args) := by
  have hl := hr.1
  have HR := Lib.hid hr
  have HL := Lib.hid hl
  clear hr hl
  rcases A with _ | ad
  · have h0 : n = 0 := by
      rcases Nat.eq_zero_or_pos n with h | h
      · exact h
      · obtain ⟨ad, e, _⟩ := HR.out.2.2 h
        cases e
    subst h0
    obtain rfl : args = [] := List.eq_nil_of_length_eq_zero HL.out
    have hq : ∀ w, (binOp .eql 40 (.slice none 0 c) (.slice none 0 0)).run Try.prog w = .ok (.bool true) w := fun w => Lib.run_eql_slice_nil w 40 22 none 0 c 0 0 Try.underlying40
    go_enter Try.func51, Try.ntmps51
    go_wp2_with fail
    go_ret
    exact ⟨_, rfl, Below.refl _ _, own_nil _ _ _ _⟩
  · have hq : ∀ w, (binOp .eql 40 (.slice (some ad) n c) (.slice none 0 0)).run Try.prog w = .ok (.bool false) w := fun w => Lib.run_eql_slice_nil w 40 22 (some ad) n c 0 0 Try.underlying40
    have HE := Lib.hid (show (W.alloc (.cells #[] 22)).ownsRow W.heap.size 22 1 (.slice (some ⟨W.heap.size, 0, none⟩) 0 0) ([] : List Int).length (nums .u32 []) from World.ownsRow_lit (base := W.heap.size) (e := 22) (size := 1) W #[] 0 (Nat.le_refl _) (by decide) rfl)
    have hB0 : Below W.heap.size W (W.alloc (.cells #[] 22)) := (Below.refl _ _).alloc (Nat.le_refl _) _
    have HB0 := Lib.hid hB0
    clear hB0
    go_enter Try.func51, Try.ntmps51
    go_wp2_with (at_builtin; refine print_append_row W.heap.size rfl (.tmp 5) (.tmp 6) 40 22 .u32 4 rfl Try.underlying40 info22 (by decide) (.slice (some ⟨W.heap.size, 0, none⟩) 0 0) [] args (some ad) n c rfl rfl HE.out (HR.out.below HB0.out) HB0.out HB0.out.size (by simpa using hb) ?_)
    intro v1 w1 hown1 hB1 _ _
    go_wp2_with fail
    go_ret
    exact ⟨_, rfl, hB1, by simpa [HL.out] using hown1⟩

set_option maxHeartbeats 2000000 in
set_option maxRecDepth 100000 in
theorem take_word {w0 W : World} {base b o : Nat} {cs : Array Value} {t : TypeId} {v : Value} {keep args : List Int} (hb : W.heap[b]? = some (.cells cs t (0, 0))) (hc : cs[o]? = some v) (hbb : base ≤ b) (ht : t ≠ 22)
    (hown : W.ownsRow base 22 1 v (keep ++ args).length (nums .u32 (keep ++ args))) (hB : Below base w0 W) (hbase : base ≤ W.heap.size) (hl : (keep ++ args).length * 4 ≤ 140737488355328) :
    Calls Try.prog 37 #[.pointer (some ⟨b, o, none⟩), .int .i64 args.length] W fun e w' => ∃ r, e = .returned r ∧ (∃ v1, Rowed w0 W w' base b o cs t 22 v v1 (nums .u32 keep)) ∧ w'.ownsRow W.heap.size 22 1 r args.length (nums .u32 args) := by
  have hnb : some b ≠ v.ownBlock := own_ne hown hb (Ne.symm ht)
  have c1 : W.cell? ⟨b, o, none⟩ = some v := by rw [blk_cell hb]; exact hc
  obtain ⟨A, cap, rfl, hR⟩ := own_reads hown
  have hcap := own_cap hown
  have hcap2 : cap ≤ 9223372036854775807 := by
    rcases hown.2 with ⟨h, _⟩ | ⟨_, _, _, h, _, _, _, hm, _⟩
    · injection h with h1 h2 h3; omega
    · cases h; simpa [maxLen] using hm
  obtain ⟨i0, hi0, _⟩ := Option.map_eq_some_iff.1 info22
  have hsz : i0.size = 1 := by
    have h := info22
    rw [hi0] at h
    simp at h
    exact h.2.1
  obtain ⟨A1, hcut, hA1⟩ := print_cut (P := Try.prog) 40 22 .i64 Try.underlying40 hi0 hsz A (keep ++ args).length cap keep.length (by simp)
  have hRA := hA1 W .u32 (keep ++ args) hcap hR
  rw [List.drop_left] at hRA
  have hlen : (keep ++ args).length = keep.length + args.length := by simp
  have e1 : (nums .u32 (keep ++ args)).take (keep.length * 1) = nums .u32 keep := by simp [nums]
  have hown1 := own_take (m := keep.length) hown (by simp)
  rw [e1] at hown1
  rw [hlen] at c1 hcap hcut hRA hl
  obtain ⟨n, hn⟩ : ∃ n, n = keep.length := ⟨_, rfl⟩
  obtain ⟨k, hk⟩ : ∃ k, k = args.length := ⟨_, rfl⟩
  rw [← hn, ← hk] at c1 hcap hcut hRA hl
  have e2 : n + k - n = k := by omega
  rw [e2] at hcut hRA
  have HR := Lib.hid (show ∀ W1 : World, Below W.heap.size W W1 → Rowed w0 W (W1.setCell ⟨b, o, none⟩ (.slice A n cap)) base b o cs t 22 (.slice A (keep ++ args).length cap) (.slice A n cap) (nums .u32 keep) from by
    intro W1 hB1
    have hb1 := blk_below hb hB1
    rw [hn]
    refine ⟨(below_then hB hbase hB1).setCell (p := ⟨b, o, none⟩) hbb _, ?_, ?_, blk_set hb1 o _, ?_, .inl ?_⟩
    · have := hB1.size; simpa using this
    · intro i hi hib _
      rw [Below.heap_setCell _ _ _ _ (by exact hib)]
      exact hB1.block i hi
    · refine own_setCell (pw_own_below (by rw [nums_length]; exact hown1) hB1) ?_ _
      cases A <;> exact hnb
    · cases A <;> rfl)
  have HB := Lib.hid hB
  have HRA := Lib.hid hRA
  have HBK := Lib.hid hb
  have HCS := Lib.hid hc
  have HN := Lib.hid (And.intro hn hk)
  have HL4 := Lib.hid hl
  have b0 : (0 : Int) ≤ n := by omega
  have b1 : (n : Int) ≤ cap := by omega
  have b2 : (n : Int) + k ≤ cap := by omega
  have b3 : (cap : Int) ≤ 9223372036854775807 := by omega
  have b4 : (n : Int) ≤ n + k := by omega
  have b5 : (0 : Int) ≤ k := by omega
  rw [← hk]
  clear hb hbb ht hown hB hnb hown1 hlen e1 e2 hn hk hcap hcap2 hR hRA hA1 hi0 hl hc
  go_enter Try.func37, Try.ntmps37
  go_wp2_with fail
  have wn : IntKind.i64.wrap (n : Int) = n := IntWalk.i64_in _ (by omega)
  refine wp_region_held_drew (S := fun w' => w'.cell? ⟨b, o, none⟩ = some (.slice A (n + k) cap)) (by kernel_rfl) (by simpa using c1) (fun hSd => ?_)
  refine wpAnyH_take (i := 0) (v := ?_) rfl (by kernel_rfl) (by kernel_rfl) (by kernel_rfl) (fun _ _ _ h => h) (Or.inl ⟨by rfl, ?_⟩) (by assumption) ?_
  rotate_left
  · (intro w hSw; (try dsimp only at hSw); go_simp; try with_reducible rfl)
  (try simp only [List.getElem_toArray, List.getElem_cons_succ, List.getElem_cons_zero, Act.put, List.setIfInBounds_toArray, List.set_cons_zero, List.set_cons_succ])
  refine wpAnyH_take (i := 1) (v := ?_) rfl (by kernel_rfl) (by kernel_rfl) (by kernel_rfl) (fun _ _ _ h => h) (Or.inl ⟨by rfl, ?_⟩) (by assumption) ?_
  rotate_left
  · (intro w hSw; (try dsimp only at hSw); go_simp; try with_reducible rfl)
  (try simp only [List.getElem_toArray, List.getElem_cons_succ, List.getElem_cons_zero, Act.put, List.setIfInBounds_toArray, List.set_cons_zero, List.set_cons_succ])
  refine wpAnyH_take (i := 2) (v := ?_) rfl (by kernel_rfl) (by kernel_rfl) (by kernel_rfl) (fun _ _ _ h => h) (Or.inl ⟨by rfl, ?_⟩) (by assumption) ?_
  rotate_left
  · (intro w hSw; (try dsimp only at hSw); go_simp; try with_reducible rfl)
  (try simp only [List.getElem_toArray, List.getElem_cons_succ, List.getElem_cons_zero, Act.put, List.setIfInBounds_toArray, List.set_cons_zero, List.set_cons_succ])
  refine wpAnyH_take (i := 3) (v := ?_) rfl (by kernel_rfl) (by kernel_rfl) (by kernel_rfl) (fun _ _ _ h => h) (Or.inl ⟨by rfl, ?_⟩) (by assumption) ?_
  rotate_left
  · (intro w hSw; (try dsimp only at hSw); go_simp; try with_reducible rfl)
  (try simp only [List.getElem_toArray, List.getElem_cons_succ, List.getElem_cons_zero, Act.put, List.setIfInBounds_toArray, List.set_cons_zero, List.set_cons_succ])
  refine wpAnyH_take (i := 4) (v := ?_) rfl (by kernel_rfl) (by kernel_rfl) (by kernel_rfl) (fun _ _ _ h => h) (Or.inl ⟨by rfl, ?_⟩) (by assumption) ?_
  rotate_left
  · (intro w hSw; (try dsimp only at hSw); go_simp; try with_reducible rfl)
  (try simp only [List.getElem_toArray, List.getElem_cons_succ, List.getElem_cons_zero, Act.put, List.setIfInBounds_toArray, List.set_cons_zero, List.set_cons_succ])
  refine wpAnyH_take (i := 5) (v := ?_) rfl (by kernel_rfl) (by kernel_rfl) (by kernel_rfl) (fun _ _ _ h => h) (Or.inl ⟨by rfl, ?_⟩) (by assumption) ?_
  rotate_left
  · (intro w hSw; (try dsimp only at hSw); go_simp; try with_reducible rfl)
  (try simp only [List.getElem_toArray, List.getElem_cons_succ, List.getElem_cons_zero, Act.put, List.setIfInBounds_toArray, List.set_cons_zero, List.set_cons_succ])
  refine wpAnyH_take (i := 6) (v := ?_) rfl (by kernel_rfl) (by kernel_rfl) (by kernel_rfl) (fun _ _ _ h => h) (Or.inl ⟨by rfl, ?_⟩) (by assumption) ?_
  rotate_left
  · (intro w hSw; (try dsimp only at hSw); go_simp; try with_reducible rfl)
  (try simp only [List.getElem_toArray, List.getElem_cons_succ, List.getElem_cons_zero, Act.put, List.setIfInBounds_toArray, List.set_cons_zero, List.set_cons_succ])
  refine wpAnyH_take (i := 7) (v := ?_) rfl (by kernel_rfl) (by kernel_rfl) (by kernel_rfl) (fun _ _ _ h => h) (Or.inl ⟨by rfl, ?_⟩) (by assumption) ?_
  rotate_left
  · (intro w hSw; (try dsimp only at hSw); go_simp; try with_reducible rfl)
  (try simp only [List.getElem_toArray, List.getElem_cons_succ, List.getElem_cons_zero, Act.put, List.setIfInBounds_toArray, List.set_cons_zero, List.set_cons_succ])
  refine wpAnyH_take (i := 8) (v := ?_) rfl (by kernel_rfl) (by kernel_rfl) (by kernel_rfl) (fun _ _ _ h => h) (Or.inl ⟨by rfl, ?_⟩) (by assumption) ?_
  rotate_left
  · (intro w hSw; (try dsimp only at hSw); go_simp; try with_reducible rfl)
  (try simp only [List.getElem_toArray, List.getElem_cons_succ, List.getElem_cons_zero, Act.put, List.setIfInBounds_toArray, List.set_cons_zero, List.set_cons_succ])
  refine wpAnyH_take (i := 9) (v := ?_) rfl (by kernel_rfl) (by kernel_rfl) (by kernel_rfl) (fun _ _ _ h => h) (Or.inl ⟨by rfl, ?_⟩) (by assumption) ?_
  rotate_left
  · (intro w hSw; (try dsimp only at hSw); go_simp; try with_reducible rfl)
  (try simp only [List.getElem_toArray, List.getElem_cons_succ, List.getElem_cons_zero, Act.put, List.setIfInBounds_toArray, List.set_cons_zero, List.set_cons_succ])
  refine wpAnyH_take (i := 10) (v := ?_) rfl (by kernel_rfl) (by kernel_rfl) (by kernel_rfl) (fun _ _ _ h => h) (Or.inl ⟨by rfl, ?_⟩) (by assumption) ?_
  rotate_left
  · (intro w hSw; (try dsimp only at hSw); go_simp; try with_reducible rfl)
  (try simp only [List.getElem_toArray, List.getElem_cons_succ, List.getElem_cons_zero, Act.put, List.setIfInBounds_toArray, List.set_cons_zero, List.set_cons_succ])
  refine wpAnyH_take (i := 11) (v := ?_) rfl (by kernel_rfl) (by kernel_rfl) (by kernel_rfl) (fun _ _ _ h => h) (Or.inl ⟨by rfl, ?_⟩) (by assumption) ?_
  rotate_left
  · (intro w hSw; (try dsimp only at hSw); go_simp; try with_reducible rfl)
  (try simp only [List.getElem_toArray, List.getElem_cons_succ, List.getElem_cons_zero, Act.put, List.setIfInBounds_toArray, List.set_cons_zero, List.set_cons_succ])
  refine wpAnyH_ready (rs := [12]) (by kernel_rfl) (by simp) ?_
  refine AllReadyH.cons rfl (fun K hK => ?_) AllReadyH.nil
  go_simp
  refine (clone_word (W := W.drew) HRA.out (by have := HL4.out; omega)).mono ?_
  rintro e w1 ⟨r, rfl, hB1, hO1⟩
  have hB1' : Below W.heap.size W w1 := ⟨hB1.os, hB1.tape, hB1.output, hB1.size, hB1.block⟩
  have hb1 := blk_below HBK.out hB1'
  have c2 : w1.cell? ⟨b, o, none⟩ = some (.slice A (n + k) cap) := pw_cell_below hB1' c1
  go_wp2_with fail
  refine hK.out _ _ c2 (fun hSe => ?_)
  clear hK K
  (try simp only [List.getElem_toArray, List.getElem_cons_succ, List.getElem_cons_zero, Act.put, List.setIfInBounds_toArray, List.set_cons_zero, List.set_cons_succ])
  refine wpAnyH_take (i := 13) (v := ?_) rfl (by kernel_rfl) (by kernel_rfl) (by kernel_rfl) (fun _ _ _ h => h) (Or.inl ⟨by rfl, ?_⟩) (by assumption) ?_
  rotate_left
  · (intro w hSw; (try dsimp only at hSw); go_simp; try with_reducible rfl)
  (try simp only [List.getElem_toArray, List.getElem_cons_succ, List.getElem_cons_zero, Act.put, List.setIfInBounds_toArray, List.set_cons_zero, List.set_cons_succ])
  refine wpAnyH_done (by kernel_rfl) ?_ _
  go_wp2_with fail
  obtain ⟨W3, hW3⟩ : ∃ W3 : World, W3 = { w1 with drawn := w1.drawn + 1 } := ⟨_, rfl⟩
  have B3 := Lib.hid (show Below W.heap.size W W3 from by rw [hW3]; exact below_drew hB1')
  have O3 := Lib.hid (show W3.ownsRow W.heap.size 22 1 r k (nums .u32 args) from by rw [hW3]; exact hO1)
  have HBK3 := Lib.hid (show W3.heap[b]? = some (.cells cs t (0, 0)) from by rw [hW3]; exact hb1)
  have c4 : W3.cell? ⟨b, o, none⟩ = some (.slice A (n + k) cap) := by rw [hW3]; exact c2
  have f4 : W3.frozen? ⟨b, o, none⟩ = false := blk_frozen HBK3.out o
  refine wp_region_still_tail 13 (by kernel_rfl) (by kernel_rfl) ?_
  rw [← hW3]
  clear hW3 c1 c2 hb1 hB1 hB1' hO1 hSe hSd hcut
  simp only [List.take_succ_cons, List.take_zero, List.drop_succ_cons, List.drop_zero]
  repeat still_step
  clear wn
  refine wpStill_nil ?_
  go_wp2_with fail
  go_ret
  refine ⟨r, rfl, ⟨_, HR.out W3 B3.out⟩, own_setCell O3.out ?_ _⟩
  intro e
  have h1 := own_base O3.out b e.symm
  have h2 := blk_lt HBK.out

  omega
end Go.Proofs.Ytlngcolnjgloaaa

/- The machine's small steps: a word pushed, popped, some taken, off the top frame's stack. Conditions: rows below 2^47 bytes. -/
namespace Go.Proofs.Ytlngcolnjgloaaa
open Go.RowKit Go.Proofs.YtlngcolnjgloaaaW.PrintWords PStackRuns
set_option linter.unusedVariables false
set_option linter.unusedSimpArgs false

/-- Variables of types 25, 28, 31, 33 (no part of the machine) stay. -/
structure Keep (W W' : World) : Prop where
  size : W.heap.size ≤ W'.heap.size
  keep : ∀ (i : Nat) (cs : Array Value) (t : TypeId), (t = 25 ∨ t = 28 ∨ t = 31 ∨ t = 33) → W.heap[i]? = some (.cells cs t (0, 0)) → W'.heap[i]? = some (.cells cs t (0, 0))
theorem Keep.refl (W : World) : Keep W W := ⟨Nat.le_refl _, fun _ _ _ _ h => h⟩
theorem Keep.trans {W W1 W2 : World} (h : Keep W W1) (k : Keep W1 W2) : Keep W W2 := ⟨Nat.le_trans h.size k.size, fun i cs t ht hb => k.keep i cs t ht (h.keep i cs t ht hb)⟩
theorem Keep.of_below {W W1 : World} (h : Below W.heap.size W W1) : Keep W W1 := ⟨h.size, fun i cs t _ hb => blk_below hb h⟩
theorem Rowed.keep {w0 W W' : World} {base b o : Nat} {cs : Array Value} {t e : TypeId} {v v1 : Value} {ys xs : List Value} {n : Nat} (h : Rowed w0 W W' base b o cs t e v v1 ys) (hb : W.heap[b]? = some (.cells cs t (0, 0))) (ho : W.ownsRow base e 1 v n xs)
    (ht : t = 61 ∨ t = 67) (he : e = 22 ∨ e = 63 ∨ e = 5) : Keep W W' := by
  refine ⟨h.size, fun i ds u hu hi => ?_⟩
  rw [h.same i (blk_lt hi) (ty_ne hi hb (by rcases ht with rfl | rfl <;> rcases hu with rfl | rfl | rfl | rfl <;> decide)) (own_ne ho hi (by rcases he with rfl | rfl | rfl <;> rcases hu with rfl | rfl | rfl | rfl <;> decide))]
  exact hi
theorem Keep.cell {W W' : World} (h : Keep W W') {i : Nat} {cs : Array Value} {t : TypeId} (ht : t = 25 ∨ t = 28 ∨ t = 31 ∨ t = 33) (hb : W.heap[i]? = some (.cells cs t (0, 0))) (j : Nat) (v : Value) (hv : cs[j]? = some v) : W'.cell? ⟨i, j, none⟩ = some v := by
  rw [blk_cell (h.keep i cs t ht hb)]; exact hv

section
variable {w0 W : World} {mb wb sc fb : Nat} {ps : List (Nat × Value)} {outv callsv v : Value} {sw : Int} {SA : Option Addr} {fs : List S28} {m : Mc} {x : Fr} {xs : List Fr}

theorem Mach.top_at (h : Mach w0 W mb ((fb, v) :: ps) wb outv callsv sw SA sc fs m) (hm : m.calls = x :: xs) : FrameAt w0 W fb v x := by
  have := h.frs
  rw [hm] at this
  exact this.1

theorem mpush (h : Mach w0 W mb ((fb, v) :: ps) wb outv callsv sw SA sc fs m) (hm : m.calls = x :: xs) (u : Int) (hl : (x.l.length + 1) * 4 ≤ 140737488355328) :
    Calls Try.prog 32 #[.pointer (some ⟨fb, 6, none⟩), .int .u32 u] W fun e w' => isRet e ∧ Keep W w' ∧ ∃ v1, Mach w0 w' mb ((fb, v1) :: ps) wb outv callsv sw SA sc fs { m with calls := { x with l := u :: x.l } :: xs } := by
  have hf := h.top_at hm
  obtain ⟨A, c, hc, hC, hb⟩ := hf.blk
  refine (push_word (w0 := w0) (base := w0.heap.size) (l := x.l.reverse) u hb (o := 6) rfl hf.ge (by decide) (by rw [List.length_reverse]; exact hf.own) h.bel h.bel.size (by rw [List.length_reverse]; exact hl)).mono ?_
  rintro e w' ⟨he, v1, hr⟩
  refine ⟨he, hr.keep hb hf.own (.inr rfl) (.inl rfl), v1, ?_⟩
  refine h.top hm hr.bel hr.size hr.same ?_ hr.at_
  refine ⟨⟨A, c, hc, hC, ?_⟩, ?_, hf.ge⟩
  · simpa using hr.blk
  · have := hr.own
    rw [nums_length] at this
    simpa using this

theorem mpop {u : Int} {l : List Int} (h : Mach w0 W mb ((fb, v) :: ps) wb outv callsv sw SA sc fs m) (hm : m.calls = x :: xs) (hx : x.l = u :: l) :
    Calls Try.prog 33 #[.pointer (some ⟨fb, 6, none⟩)] W fun e w' => e = .returned (.int .u32 u) ∧ Keep W w' ∧ ∃ v1, Mach w0 w' mb ((fb, v1) :: ps) wb outv callsv sw SA sc fs { m with calls := { x with l := l } :: xs } := by
  have hf := h.top_at hm
  obtain ⟨A, c, hc, hC, hb⟩ := hf.blk
  have ho := hf.own
  rw [hx] at ho
  refine (pop_word (w0 := w0) (base := w0.heap.size) (l := l.reverse) (x := u) hb (o := 6) rfl hf.ge (by decide) (by simpa using ho) h.bel).mono ?_
  rintro e w' ⟨he, v1, hr⟩
  refine ⟨he, hr.keep hb hf.own (.inr rfl) (.inl rfl), v1, ?_⟩
  refine h.top hm hr.bel hr.size hr.same ?_ hr.at_
  refine ⟨⟨A, c, hc, hC, ?_⟩, ?_, hf.ge⟩
  · simpa using hr.blk
  · have := hr.own
    rw [nums_length] at this
    simpa using this

theorem mtake {args l : List Int} (h : Mach w0 W mb ((fb, v) :: ps) wb outv callsv sw SA sc fs m) (hm : m.calls = x :: xs) (hx : x.l = args.reverse ++ l) (hl : x.l.length * 4 ≤ 140737488355328) :
    Calls Try.prog 37 #[.pointer (some ⟨fb, 6, none⟩), .int .i64 args.length] W fun e w' => ∃ r, e = .returned r ∧ Keep W w' ∧ (∃ v1, Mach w0 w' mb ((fb, v1) :: ps) wb outv callsv sw SA sc fs { m with calls := { x with l := l } :: xs }) ∧ w'.ownsRow W.heap.size 22 1 r args.length (nums .u32 args) := by
  have hf := h.top_at hm
  obtain ⟨A, c, hc, hC, hb⟩ := hf.blk
  have ho := hf.own
  have e1 : x.l.reverse = l.reverse ++ args := by rw [hx]; simp
  have e2 : x.l.length = (l.reverse ++ args).length := by rw [← e1]; simp
  rw [e1, e2] at ho
  refine (take_word (w0 := w0) (base := w0.heap.size) (keep := l.reverse) (args := args) hb (o := 6) rfl hf.ge (by decide) ho h.bel h.bel.size (by rw [← e2]; exact hl)).mono ?_
  rintro e w' ⟨r, he, ⟨v1, hr⟩, hor⟩
  refine ⟨r, he, hr.keep hb hf.own (.inr rfl) (.inl rfl), ⟨v1, ?_⟩, hor⟩
  refine h.top hm hr.bel hr.size hr.same ?_ hr.at_
  refine ⟨⟨A, c, hc, hC, ?_⟩, ?_, hf.ge⟩
  · simpa using hr.blk
  · have := hr.own
    rw [nums_length] at this
    simpa using this
end
end Go.Proofs.Ytlngcolnjgloaaa

/- The stack machine as a plain function: what an instruction does, a step, a run. Conditions: none. -/
namespace Go.Proofs.Ytlngcolnjgloaaa
open Go.RowKit Go.Proofs.YtlngcolnjgloaaaW.PrintWords PStackRuns
set_option linter.unusedVariables false
set_option linter.unusedSimpArgs false

/-- A call's words: the parameters, then zeros. -/
def layF (ws : List Int) (first slots : Nat) (args : List Int) : List Int := splice (splice ws first (List.replicate slots 0)) first (args.take slots)

def callF (fs : List S28) (f : Int) (args : List Int) (m : Mc) : Option Mc :=
  if 0 ≤ f ∧ f < fs.length ∧ 0 ≤ (rd_T28 fs f).f2 ∧ 0 ≤ (rd_T28 fs f).f1 ∧ (rd_T28 fs f).f2 + (rd_T28 fs f).f1 ≤ m.words.length then
    some { m with words := layF m.words (rd_T28 fs f).f2.toNat (rd_T28 fs f).f1.toNat args, calls := ⟨rd_T28 fs f, 0, []⟩ :: m.calls }
  else none

def word (u : Int) : Prop := 0 ≤ u ∧ u < 4294967296
instance (u : Int) : Decidable (word u) := by unfold word; infer_instance

def doF (fs : List S28) (i : S25) (m : Mc) : Option Mc :=
  match m.calls with
  | [] => none
  | x :: xs =>
    if i.f0 = 1 then some { m with calls := { x with l := i.f3 :: x.l } :: xs }
    else if i.f0 = 2 then if 0 ≤ i.f1 ∧ i.f1 < m.words.length then some { m with calls := { x with l := rd m.words i.f1 :: x.l } :: xs } else none
    else if i.f0 = 3 then
      match x.l with
      | u :: l => if 0 ≤ i.f1 ∧ i.f1 < m.words.length then some { m with words := m.words.set i.f1.toNat u, calls := { x with l := l } :: xs } else none
      | [] => none
    else if i.f0 = 4 then
      match x.l with
      | u :: l => if word u ∧ 0 ≤ i.f1 ∧ 0 ≤ i.f2 ∧ i.f2 ≤ 4096 then
          (if u < i.f2 then (if i.f1 + u < m.words.length then some { m with calls := { x with l := rd m.words (i.f1 + u) :: l } :: xs } else none)
            else some { m with calls := { x with l := l } :: xs, end_ := 3 }) else none
      | [] => none
    else if i.f0 = 5 then
      match x.l with
      | v :: u :: l => if word u ∧ 0 ≤ i.f1 ∧ 0 ≤ i.f2 ∧ i.f2 ≤ 4096 then
          (if u < i.f2 then (if i.f1 + u < m.words.length then some { m with words := m.words.set (i.f1 + u).toNat v, calls := { x with l := l } :: xs } else none)
            else some { m with calls := { x with l := l } :: xs, end_ := 3 }) else none
      | _ => none
    else if i.f0 = 6 then
      match x.l with
      | b :: a :: l =>
        match word_Apply.f 1 i.f1 a b with
        | some (v, e) => if e = 0 then some { m with calls := { x with l := v :: l } :: xs } else some { m with calls := { x with l := l } :: xs, end_ := 2 }
        | none => none
      | _ => none
    else if i.f0 = 7 then
      match x.l with
      | u :: l => some { m with calls := { x with l := (if u = 0 then 1 else 0) :: l } :: xs }
      | [] => none
    else if i.f0 = 8 then some { m with calls := { x with at_ := i.f1 } :: xs }
    else if i.f0 = 9 then
      match x.l with
      | u :: l => if u = 0 then some { m with calls := { x with l := l, at_ := i.f1 } :: xs } else some { m with calls := { x with l := l } :: xs }
      | [] => none
    else if i.f0 = 10 then
      if 0 ≤ i.f1 ∧ i.f1 < fs.length ∧ 0 ≤ (rd_T28 fs i.f1).f0 ∧ (rd_T28 fs i.f1).f0 ≤ x.l.length then
        callF fs i.f1 (x.l.take (rd_T28 fs i.f1).f0.toNat).reverse { m with calls := { x with l := x.l.drop (rd_T28 fs i.f1).f0.toNat } :: xs }
      else none
    else if i.f0 = 11 then
      match xs with
      | [] => some { m with calls := [], end_ := 1 }
      | y :: ys => if x.f.f3 = true then (match x.l with
          | u :: _ => some { m with calls := { y with l := u :: y.l } :: ys }
          | [] => none) else some { m with calls := y :: ys }
    else if i.f0 = 12 then
      if m.inp.size = 0 then some { m with calls := { x with l := 256 :: x.l } :: xs }
      else some { m with inp := m.inp.extract 1 m.inp.size, calls := { x with l := bt m.inp 0 :: x.l } :: xs }
    else if i.f0 = 13 then
      match x.l with
      | u :: l => if (65536 : Int) ≤ m.out.length then some { m with calls := { x with l := l } :: xs, end_ := 4 } else some { m with calls := { x with l := l } :: xs, out := m.out ++ [u % 256] }
      | [] => none
    else none

def stepF (fs : List S28) (m : Mc) : Option Mc :=
  match m.calls with
  | [] => none
  | x :: xs => if 0 ≤ x.at_ ∧ x.at_ < x.f.f4.length then doF fs (rd_T25 x.f.f4 x.at_) { m with calls := { x with at_ := x.at_ + 1 } :: xs } else none

/-- End, output, steps. -/
def loopF (fs : List S28) (fuel : Int) : Nat → Nat → Mc → Option (Int × List Int × Nat)
  | 0, _, _ => none
  | k + 1, st, m => if m.end_ ≠ 0 then some (m.end_, m.out, st) else if fuel ≤ st then some (5, m.out, st) else (stepF fs m).bind (loopF fs fuel k (st + 1))

def runF (sw : Int) (fs : List S28) (inp : ByteArray) (fuel : Int) (k : Nat) : Option (Int × List Int × Nat) :=
  (callF fs ((fs.length : Int) - 1) [] ⟨List.replicate sw.toNat 0, inp, [], [], 0⟩).bind (loopF fs fuel k 0)

theorem Mach.apart {w0 W W' : World} {mb wb sc fb : Nat} {ps : List (Nat × Value)} {outv callsv v : Value} {sw : Int} {SA : Option Addr} {fs : List S28} {m : Mc} {n : Nat} {cs : Array Value} {ys : List Value}
    (h : Mach w0 W mb ps wb outv callsv sw SA sc fs m) (hB : Below w0.heap.size w0 W') (hS : ∀ i, i < W.heap.size → i ≠ fb → some i ≠ v.ownBlock → W'.heap[i]? = W.heap[i]?)
    (hfb : W.heap[fb]? = some (.cells cs 67 (0, 0))) (ho : W.ownsRow w0.heap.size 22 1 v n ys) (hn : v.ownBlock ≠ some wb) (ha : ∀ q ∈ ps, q.1 ≠ fb ∧ (v.ownBlock = none ∨ q.2.ownBlock ≠ v.ownBlock)) :
    Mach w0 W' mb ps wb outv callsv sw SA sc fs m := by
  have hty := Frs.typed h.frs
  refine ⟨hB, h.gem, h.gew, ?_, ?_, ?_, ?_, ?_⟩
  · rw [hS mb (blk_lt h.mblk) (ty_ne h.mblk hfb (by decide)) (own_ne ho h.mblk (by decide))]
    exact h.mblk
  · rw [hS wb (blk_lt h.wblk) (ty_ne h.wblk hfb (by decide)) (fun e => hn e.symm)]
    exact h.wblk
  · refine own_move h.out fun k hk => hS k (own_lt h.out k hk) (own_ne_blk h.out hfb (by decide) hk) ?_
    rcases own_type_ne h.out ho (by decide) with e | e
    · rw [e] at hk; cases hk
    · rw [← hk]; exact e
  · refine own_move h.calls fun k hk => hS k (own_lt h.calls k hk) (own_ne_blk h.calls hfb (by decide) hk) ?_
    rcases own_type_ne h.calls ho (by decide) with e | e
    · rw [e] at hk; cases hk
    · rw [← hk]; exact e
  · refine Frs.move h.frs fun q hq => ?_
    obtain ⟨⟨ds, hq1⟩, hq2, _⟩ := hty q hq
    refine ⟨hS q.1 (blk_lt hq1) (ha q hq).1 (own_ne ho hq1 (by decide)), fun k hk => ?_⟩
    obtain ⟨_, hk2, cs', hk3⟩ := hq2 k hk
    refine hS k hk2 (ty_ne hk3 hfb (by decide)) ?_
    rcases (ha q hq).2 with e | e
    · rw [e]; simp
    · rw [← hk]; exact e
end Go.Proofs.Ytlngcolnjgloaaa
