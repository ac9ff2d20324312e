/- The walk of the reference's Order: what it hands back is the walk depth first, the last ahead. Conditions: at most 2^40 blocks. -/
import Derived.Test.YtnlapancooecjaaOpu
import Derived.Test.YtnlapancooecjaaFrm
import Derived.Test.YtnlapancooecjaaAbv
namespace Go.Proofs.Ytnlapancooecjaa
open Go.RowKit Go.Proofs.YtnlapancooecjaaW.PrintWords
set_option linter.unusedVariables false
set_option linter.unusedSimpArgs false

def ins (st : List (Nat × Nat)) : List Int := (st.map fun p => (p.1 : Int)).reverse
def lks (st : List (Nat × Nat)) : List Int := (st.map fun p => (p.2 : Int)).reverse
theorem ins_cons (p : Nat × Nat) (st : List (Nat × Nat)) : ins (p :: st) = ins st ++ [(p.1 : Int)] := by simp [ins]
theorem lks_cons (p : Nat × Nat) (st : List (Nat × Nat)) : lks (p :: st) = lks st ++ [(p.2 : Int)] := by simp [lks]
theorem ins_len (st : List (Nat × Nat)) : (ins st).length = st.length := by simp [ins]
theorem lks_len (st : List (Nat × Nat)) : (lks st).length = st.length := by simp [lks]

structure OrdI (w0 wr : World) (next : List (List Int)) (gs gi ci gl cl : Nat) (vo : Value) (s : List Bool) (st : List (Nat × Nat)) (out : List Int) : Prop where
  bel : Below w0.heap.size w0 wr
  sn : wr.heap[gs]? = some (.cells (bools s).toArray 4 (0, 0))
  hi : wr.ownsRow w0.heap.size 3 1 (.slice (some ⟨gi, 0, none⟩) st.length ci) st.length (nums .i64 (ins st))
  hl : wr.ownsRow w0.heap.size 3 1 (.slice (some ⟨gl, 0, none⟩) st.length cl) st.length (nums .i64 (lks st))
  ho : wr.ownsRow w0.heap.size 3 1 vo out.length (nums .i64 out)
  sb : w0.heap.size ≤ gs
  ne1 : gi ≠ gl
  ne2 : vo.ownBlock ≠ some gi
  ne3 : vo.ownBlock ≠ some gl
  ne4 : gs ≠ gi
  ne5 : gs ≠ gl
  ne6 : vo.ownBlock ≠ some gs
  sl : s.length = next.length
  sum : out.length + st.length + unseen s = next.length
  ok : ∀ p ∈ st, p.1 < next.length ∧ p.2 ≤ (succs next p.1).length

theorem own_lt_ {w : World} {base g n cap : Nat} {e : TypeId} {xs : List Value} (h : w.ownsRow base e 1 (.slice (some ⟨g, 0, none⟩) n cap) n xs) : base ≤ g ∧ g < w.heap.size :=
  h.lt g (by simp [Value.ownBlock])

theorem order_start (w : World) (next : List (List Int)) (h : 0 < next.length) (wr : World) (hwr : wr = ((w.alloc (.cells ((madeCells #[.bool false] next.length).setIfInBounds 0 (.bool true)) 4)).alloc (.cells #[.int .i64 0] 3)).alloc (.cells #[.int .i64 0] 3)) :
    OrdI w wr next w.heap.size (w.heap.size + 1) 1 (w.heap.size + 1 + 1) 1 (.slice none 0 0) ((List.replicate next.length false).set 0 true) [(0, 0)] [] := by
  have hset := unseen_set (List.replicate next.length false) 0 (by rw [List.getElem?_replicate, if_pos h])
  rw [unseen_new] at hset
  have b0 : Below w.heap.size w (w.alloc (.cells ((madeCells #[.bool false] next.length).setIfInBounds 0 (.bool true)) 4)) := (Below.refl _ _).alloc (Nat.le_refl _) _
  have s0 := heap_alloc_new w (.cells ((madeCells #[.bool false] next.length).setIfInBounds 0 (.bool true)) 4)
  have hz : (w.alloc (.cells ((madeCells #[.bool false] next.length).setIfInBounds 0 (.bool true)) 4)).heap.size = w.heap.size + 1 := by simp
  generalize (w.alloc (.cells ((madeCells #[.bool false] next.length).setIfInBounds 0 (.bool true)) 4)) = w1 at *
  subst hwr
  refine ⟨(b0.alloc (by omega) _).alloc (by simp; omega) _, ?_, ?_, ?_, World.ownsRow_nil _ _ _ _, Nat.le_refl _, by omega, by simp [Value.ownBlock], by simp [Value.ownBlock], by omega, by omega, by simp [Value.ownBlock], by simp, by simp; omega, ?_⟩
  · rw [heap_get, if_neg (by simp; omega), heap_get, if_neg (by omega), s0, made_bools]
    simp [bools, List.map_set]
    rw [← List.toArray_replicate, List.setIfInBounds_toArray]
  · have := World.ownsRow_lit (base := w.heap.size) (e := 3) (size := 1) w1 #[.int .i64 0] 1 (by omega) (by decide) rfl
    rw [hz] at this
    exact this.alloc _
  · have := World.ownsRow_lit (base := w.heap.size) (e := 3) (size := 1) (w1.alloc (.cells #[.int .i64 0] 3)) #[.int .i64 0] 1 (by simp; omega) (by decide) rfl
    rw [show (w1.alloc (.cells #[.int .i64 0] 3)).heap.size = w.heap.size + 1 + 1 from by simp; omega] at this
    exact this
  · intro p hp
    simp at hp
    subst hp
    exact ⟨h, Nat.zero_le _⟩
theorem take_own {w : World} {base g cap : Nat} {st : List (Nat × Nat)} {p : Nat × Nat} {f : List (Nat × Nat) → List Int} (hf : ∀ p st, f (p :: st) = f st ++ [(f [p]).headD 0]) (hfl : ∀ st, (f st).length = st.length)
    (h : w.ownsRow base 3 1 (.slice (some ⟨g, 0, none⟩) (p :: st).length cap) (p :: st).length (nums .i64 (f (p :: st)))) : w.ownsRow base 3 1 (.slice (some ⟨g, 0, none⟩) st.length cap) st.length (nums .i64 (f st)) := by
  have h2 := own_take h (m := st.length) (by simp)
  rw [Nat.mul_one, hf] at h2
  simp only [nums, List.map_append] at h2
  rw [List.take_left' (by rw [List.length_map, hfl])] at h2
  exact h2
theorem OrdI.drewN {w0 wr W : World} {m : Nat} {next : List (List Int)} {gs gi ci gl cl : Nat} {vo : Value} {s : List Bool} {st : List (Nat × Nat)} {out : List Int} (hq : wr.drewN m = W) (h : OrdI w0 wr next gs gi ci gl cl vo s st out) : OrdI w0 W next gs gi ci gl cl vo s st out := by
  subst hq
  exact ⟨pw_below_drewN h.bel m, h.sn, h.hi, h.hl, h.ho, h.sb, h.ne1, h.ne2, h.ne3, h.ne4, h.ne5, h.ne6, h.sl, h.sum, h.ok⟩
theorem row_cap {w : World} {base : Nat} {e : TypeId} {size g n cap : Nat} {xs : List Value} (h : w.ownsRow base e size (.slice (some ⟨g, 0, none⟩) n cap) n xs) : n ≤ cap := by
  rcases h.2 with ⟨h', _⟩ | ⟨g', cap', cur, h', _, _, hc, _⟩
  · cases h'
  · cases h'
    exact hc
theorem order_cells {w0 wr : World} {next : List (List Int)} {gs gi ci gl cl : Nat} {vo : Value} {s : List Bool} {a i : Nat} {st : List (Nat × Nat)} {out : List Int} (h : OrdI w0 wr next gs gi ci gl cl vo s ((a, i) :: st) out) :
    wr.cell? ⟨gi, st.length, none⟩ = some (.int .i64 a) ∧ wr.cell? ⟨gl, st.length, none⟩ = some (.int .i64 i) ∧ wr.frozen? ⟨gl, st.length, none⟩ = false ∧ st.length + 1 ≤ ci ∧ st.length + 1 ≤ cl ∧ out.length + st.length + 1 ≤ next.length ∧ a < next.length ∧ i ≤ (succs next a).length := by
  have h1 := h.hi.cellAt st.length (by simp)
  have h2 := h.hl.cellAt st.length (by simp)
  rw [h1, h2, ins_cons, lks_cons]
  refine ⟨?_, ?_, h.hl.frozenAt _, row_cap h.hi, row_cap h.hl, by have := h.sum; simp at this; omega, (h.ok (a, i) (by simp)).1, (h.ok (a, i) (by simp)).2⟩
  · simp only [nums, List.map_append]
    rw [List.getElem?_append_right (by rw [List.length_map, ins_len]; exact Nat.le_refl _), List.length_map, ins_len, Nat.sub_self]
    rfl
  · simp only [nums, List.map_append]
    rw [List.getElem?_append_right (by rw [List.length_map, lks_len]; exact Nat.le_refl _), List.length_map, lks_len, Nat.sub_self]
    rfl
theorem order_pop {w0 wr w2 : World} {next : List (List Int)} {gs gi ci gl cl : Nat} {vo v1 : Value} {s : List Bool} {a i : Nat} {st : List (Nat × Nat)} {out : List Int} (h : OrdI w0 wr next gs gi ci gl cl vo s ((a, i) :: st) out) (o : Obj)
    (hown : w2.ownsRow w0.heap.size 3 1 v1 ((a : Int) :: out).length (nums .i64 ((a : Int) :: out))) (hg : (wr.alloc o).grownBy w2 (some wr.heap.size)) (hat : v1.ownBlock = some wr.heap.size ∨ ∃ b, v1.ownBlock = some b ∧ (wr.alloc o).heap.size ≤ b) :
    OrdI w0 w2 next gs gi ci gl cl v1 s st ((a : Int) :: out) := by
  have hg' : wr.grownBy w2 (some wr.heap.size) := World.grownBy.trans (World.grownBy_alloc wr o _) hg
  have l1 := own_lt_ h.hi
  have l2 := own_lt_ h.hl
  have l3 := lt_of_block h.sn
  have hz := h.bel.size
  have hat' : ∃ b, v1.ownBlock = some b ∧ wr.heap.size ≤ b := by
    rcases hat with e | ⟨b, e, hb⟩
    · exact ⟨_, e, Nat.le_refl _⟩
    · exact ⟨b, e, by simp at hb; omega⟩
  obtain ⟨b, eb, hb⟩ := hat'
  refine ⟨h.bel.grown hg' (by omega) (fun k hk => by cases hk; omega), (hg'.block _ l3 (by simp; omega)).trans h.sn, ?_, ?_, hown, h.sb, h.ne1, by rw [eb]; simp; omega, by rw [eb]; simp; omega, h.ne4, h.ne5, by rw [eb]; simp; omega, h.sl, by have := h.sum; simp at this ⊢; omega, fun p hp => h.ok p (List.mem_cons_of_mem _ hp)⟩
  · exact take_own (f := ins) (fun p st => by simp [ins]) ins_len (h.hi.kept hg' (.inr (by simp [Value.ownBlock]; omega)))
  · exact take_own (f := lks) (fun p st => by simp [lks]) lks_len (h.hl.kept hg' (.inr (by simp [Value.ownBlock]; omega)))
theorem order_look {w0 wr : World} {next : List (List Int)} {gs gi ci gl cl : Nat} {vo : Value} {s : List Bool} {a i : Nat} {st : List (Nat × Nat)} {out : List Int} (h : OrdI w0 wr next gs gi ci gl cl vo s ((a, i) :: st) out)
    (hi : i < (succs next a).length) : OrdI w0 (wr.setCell ⟨gl, st.length, none⟩ (.int .i64 ((i : Int) + 1))) next gs gi ci gl cl vo s ((a, i + 1) :: st) out := by
  obtain ⟨hst, hg⟩ := h.hl.stored st.length (.int .i64 ((i : Int) + 1))
  have l1 := own_lt_ h.hi
  have l2 := own_lt_ h.hl
  have l3 := lt_of_block h.sn
  refine ⟨h.bel.setCell (by show w0.heap.size ≤ gl; omega) _, (hg.block _ l3 (by have := h.ne5; simp; omega)).trans h.sn, ?_, ?_, h.ho.kept hg (.inr h.ne3), h.sb, h.ne1, h.ne2, h.ne3, h.ne4, h.ne5, h.ne6, h.sl, h.sum, ?_⟩
  · exact h.hi.kept hg (.inr (by have := h.ne1; simp [Value.ownBlock]; omega))
  · have e : (nums .i64 (lks ((a, i) :: st))).set st.length (.int .i64 ((i : Int) + 1)) = nums .i64 (lks ((a, i + 1) :: st)) := by
      rw [lks_cons, lks_cons]
      simp only [nums, List.map_append, List.map_cons, List.map_nil]
      rw [List.set_append_right _ _ (by rw [List.length_map, lks_len]; exact Nat.le_refl _), List.length_map, lks_len, Nat.sub_self]
      simp
    rw [e] at hst
    exact hst
  · intro p hp
    simp only [List.mem_cons] at hp
    rcases hp with rfl | hp
    · have := h.ok (a, i) (by simp)
      exact ⟨this.1, hi⟩
    · exact h.ok p (by simp [hp])
theorem order_mid {w0 wr w2 : World} {next : List (List Int)} {gs gi ci gl cl : Nat} {vo : Value} {s : List Bool} {st : List (Nat × Nat)} {out : List Int} (h : OrdI w0 wr next gs gi ci gl cl vo s st out) (x : Nat)
    (hg : (wr.setCell ⟨gs, x, none⟩ (.bool true)).grownBy w2 (some gi)) : w2.ownsRow w0.heap.size 3 1 (.slice (some ⟨gl, 0, none⟩) st.length cl) st.length (nums .i64 (lks st)) ∧ w2.ownsRow w0.heap.size 3 1 vo out.length (nums .i64 out) ∧ w2.heap[gs]? = some (.cells (bools (s.set x true)).toArray 4 (0, 0)) ∧ Below w0.heap.size w0 w2 ∧ wr.heap.size ≤ w2.heap.size := by
  have g1 : wr.grownBy (wr.setCell ⟨gs, x, none⟩ (.bool true)) (some gs) := ⟨rfl, rfl, rfl, by simp, fun k _ hk => heap_setCell_other wr ⟨gs, x, none⟩ k _ (fun e => hk (by simp [e]))⟩
  have hsz : (wr.setCell ⟨gs, x, none⟩ (.bool true)).heap.size = wr.heap.size := by simp
  have s0 := Go.Proofs.YtnlapancooecjaaW.PrintWords.blk_set h.sn x (.bool true)
  have l1 := own_lt_ h.hi
  have l3 := lt_of_block h.sn
  refine ⟨(h.hl.kept g1 (.inr (by have := h.ne5; simp [Value.ownBlock]; omega))).kept hg (.inr (by have := h.ne1; simp [Value.ownBlock]; omega)), (h.ho.kept g1 (.inr h.ne6)).kept hg (.inr h.ne2), ?_, ?_, ?_⟩
  · rw [hg.block gs (by rw [hsz]; exact l3) (by have := h.ne4; simp; omega), s0]
    simp [bools, List.map_set]
  · exact (h.bel.setCell (p := ⟨gs, x, none⟩) h.sb _).grown hg (by have := h.bel.size; omega) (fun k hk => by cases hk; omega)
  · have := hg.size; omega
theorem order_set {w0 wr : World} {next : List (List Int)} {gs gi ci gl cl : Nat} {vo : Value} {s : List Bool} {st : List (Nat × Nat)} {out : List Int} (h : OrdI w0 wr next gs gi ci gl cl vo s st out) (x : Nat) :
    (wr.setCell ⟨gs, x, none⟩ (.bool true)).ownsRow w0.heap.size 3 1 (.slice (some ⟨gi, 0, none⟩) st.length ci) (ins st).length (nums .i64 (ins st)) := by
  have g1 : wr.grownBy (wr.setCell ⟨gs, x, none⟩ (.bool true)) (some gs) := ⟨rfl, rfl, rfl, by simp, fun k _ hk => heap_setCell_other wr ⟨gs, x, none⟩ k _ (fun e => hk (by simp [e]))⟩
  rw [ins_len]
  exact h.hi.kept g1 (.inr (by have := h.ne4; simp [Value.ownBlock]; omega))
theorem order_seen {w0 wr : World} {next : List (List Int)} {gs gi ci gl cl : Nat} {vo : Value} {s : List Bool} {st : List (Nat × Nat)} {out : List Int} (h : OrdI w0 wr next gs gi ci gl cl vo s st out) (x : Nat) (b : Bool) (hx : x < next.length) (hb : hit s x = b) :
    wr.cell? ⟨gs, x, none⟩ = some (.bool b) ∧ wr.frozen? ⟨gs, x, none⟩ = false := by
  refine ⟨?_, frozen_of_row _ _ x _ _ h.sn⟩
  rw [cell_of_row _ _ x _ _ (0, 0) h.sn]
  have hl : x < s.length := by rw [h.sl]; exact hx
  unfold hit at hb
  rw [Int.toNat_natCast, List.getD_eq_getElem?_getD, List.getElem?_eq_getElem hl] at hb
  simp only [Option.getD_some] at hb
  simp [bools, List.getElem?_eq_getElem hl, hb]
theorem order_push {w0 wr w2 w3 : World} {next : List (List Int)} {gs gi ci gl cl gi' ci' gl' cl' : Nat} {vo : Value} {s : List Bool} {a i : Nat} {st : List (Nat × Nat)} {out : List Int} (h : OrdI w0 wr next gs gi ci gl cl vo s st out) (x : Nat) (hx : x < next.length) (hs : s[x]? = some false)
    (hg : (wr.setCell ⟨gs, x, none⟩ (.bool true)).grownBy w2 (some gi)) (o1 : w2.ownsRow w0.heap.size 3 1 (.slice (some ⟨gi', 0, none⟩) (st.length + 1) ci') (st.length + 1) (nums .i64 (ins st ++ [(x : Int)]))) (a1 : gi' = gi ∨ wr.heap.size ≤ gi')
    (hg2 : w2.grownBy w3 (some gl)) (o2 : w3.ownsRow w0.heap.size 3 1 (.slice (some ⟨gl', 0, none⟩) (st.length + 1) cl') (st.length + 1) (nums .i64 (lks st ++ [0]))) (a2 : gl' = gl ∨ w2.heap.size ≤ gl') :
    OrdI w0 w3 next gs gi' ci' gl' cl' vo (s.set x true) ((x, 0) :: st) out := by
  obtain ⟨ml, mo, ms, mb, mz⟩ := order_mid h x hg
  have l1 := own_lt_ h.hi
  have l2 := own_lt_ h.hl
  have l3 := lt_of_block h.sn
  have l4 := own_lt_ o1
  have l5 := own_lt_ o2
  have n1 := h.ne1
  have n2 := h.ne2
  have n3 := h.ne3
  have n4 := h.ne4
  have n5 := h.ne5
  have n6 := h.ne6
  have hvo : ∀ k, vo.ownBlock = some k → k < wr.heap.size := fun k hk => (h.ho.lt k hk).2
  refine ⟨mb.grown hg2 (by omega) (fun k hk => by cases hk; omega), (hg2.block _ (by omega) (by simp; omega)).trans ms, ?_, ?_, mo.kept hg2 (.inr h.ne3), h.sb, by omega, ?_, ?_, by omega, by omega, h.ne6, by simpa using h.sl, ?_, ?_⟩
  · rw [ins_cons]
    exact o1.kept hg2 (.inr (by simp [Value.ownBlock]; omega))
  · rw [lks_cons]
    exact o2
  · intro e
    rcases a1 with rfl | hh
    · exact n2 e
    · have := hvo _ e; omega
  · intro e
    rcases a2 with rfl | hh
    · exact n3 e
    · have := hvo _ e; omega
  · have := unseen_set s x hs
    have := h.sum
    simp only [List.length_cons]
    omega
  · intro p hp
    simp only [List.mem_cons] at hp
    rcases hp with rfl | hp
    · exact ⟨hx, Nat.zero_le _⟩
    · exact h.ok p hp

set_option maxHeartbeats 4000000 in
set_option maxRecDepth 100000 in
theorem refOrder_any (w : World) (next : List (List Int)) (A : Option Addr) (c : Nat) (hc : next.length ≤ c) (hC : (Kd.slice 3 (Kd.int .i64)).C w A next.length next) (hn : next.length ≤ 1000) (hlen : ∀ b, (succs next b).length * 8 ≤ 140737488351232) :
    Calls Try.prog 16 #[.slice A next.length c] w (fun e w' => ∃ v, e = .returned v ∧ Kd.R (Kd.int .i64) 3 w' w.heap.size (fun _ => True) v (orderF next) ∧ Below w.heap.size w w') := by
  rcases Nat.eq_zero_or_pos next.length with h0 | hpos
  · have d0 : ((next.length : Int) == 0) = true := by rw [beq_iff_eq]; omega
    obtain rfl : next = [] := List.eq_nil_of_length_eq_zero h0
    clear hC hlen h0 hn
    go_enter Try.func16, Try.ntmps16
    go_wp2_with fail
    go_ret
    exact ⟨_, rfl, Kd.R_of_own (by rw [show orderF [] = [] from by decide +kernel]; exact World.ownsRow_nil _ _ _ _) (fun _ _ => trivial), Below.refl _ _⟩
  · obtain ⟨K, hK⟩ := run_order next hpos
    obtain ⟨ad, A0, c0, rfl, hxx⟩ := cell_nx hC 0 hpos
    clear hxx A0 c0
    have d0 : ((next.length : Int) == 0) = false := by rw [Bool.eq_false_iff, ne_eq, beq_iff_eq]; omega
    have hmk : ∀ W : World, (Instr.makeSlice 25 (.int .i64 (next.length : Int)) (.int .i64 (next.length : Int))).run Try.prog W = .ok (.slice (some ⟨W.heap.size, 0, none⟩) next.length next.length) (W.alloc (.cells (madeCells #[.bool false] next.length) 4)) := by
      intro W
      exact run_make_row' 25 4 (.bool false) 1 Try.underlying25 (by kernel_rfl) rfl .i64 .i64 next.length (by omega) (by omega) W
    have HS := Lib.hid (order_start w next hpos)
    have HC := Lib.hid hC
    have HK := Aside0.mk hK
    have HL := Lib.hid hlen
    have c1 : (w.alloc (.cells (madeCells #[.bool false] next.length) 4)).cell? ⟨w.heap.size, 0, none⟩ = some (.bool false) := by
      have := heap_alloc_new w (.cells (madeCells #[.bool false] next.length) 4)
      rw [cell_of_row _ _ 0 _ _ (0, 0) this, made_bools]
      simp [bools, hpos]
    have c2 : (w.alloc (.cells (madeCells #[.bool false] next.length) 4)).frozen? ⟨w.heap.size, 0, none⟩ = false := by
      have := heap_alloc_new w (.cells (madeCells #[.bool false] next.length) 4)
      exact frozen_of_row _ _ 0 _ _ this
    have hp : (0 : Int) < next.length := by omega
    clear hC hK hlen hpos
    go_enter Try.func16, Try.ntmps16
    go_wp2_with fail
    have HS0 := Lib.hid (HS.out _ rfl)
    clear HS c1 c2 hmk
    go_loopg [4, 5, 6] K (fun m v4 v5 v6 wr => ∃ (s : List Bool) (st : List (Nat × Nat)) (out : List Int) (gi ci gl cl : Nat), v4 = .slice (some ⟨gi, 0, none⟩) st.length ci ∧ v5 = .slice (some ⟨gl, 0, none⟩) st.length cl ∧ OrdI w wr next w.heap.size gi ci gl cl v6 s st out ∧ Aside0 (runO next m s st out = some (orderF next)))
    case atStart => exact ⟨_, [(0, 0)], [], _, _, _, _, rfl, rfl, HS0.out, HK⟩
    case round =>
      obtain ⟨s, st, out, gi, ci, gl, cl, rfl, rfl, hI, ⟨hr⟩⟩ := hrel
      cases gk with
      | zero => simp [runO] at hr
      | succ m =>
        cases st with
        | nil =>
          rw [runO] at hr
          obtain rfl := Option.some.inj hr
          have HI := Lib.hid hI
          clear hI hr
          go_wp2_with fail
          go_ret
          exact ⟨_, rfl, Kd.R_of_own HI.out.ho (fun _ _ => trivial), HI.out.bel⟩
        | cons p st =>
          obtain ⟨a, i⟩ := p
          rw [runO] at hr
          obtain ⟨cin, clk, fzl, hci, hcl, hsum, han, hil⟩ := order_cells hI
          obtain ⟨ad', A1, c1, had, cnx0, hlc1, hC1⟩ := cell_nx HC.out a han
          cases had
          have cnx := pw_cell_below hI.bel cnx0
          have hl8 : (succs next a).length ≤ 9223372036854775806 := by have := HL.out a; omega
          have HBD := Lib.hid (show st.length + 1 ≤ ci ∧ st.length + 1 ≤ cl ∧ out.length + st.length + 1 ≤ next.length ∧ a < next.length ∧ i ≤ (succs next a).length ∧ (succs next a).length ≤ 9223372036854775806 ∧ out.length ≤ 1000 from ⟨hci, hcl, hsum, han, hil, hl8, by omega⟩)
          have HI := Lib.hid hI
          have HC1 := Lib.hid hC1
          rw [List.length_cons]
          obtain ⟨t, ht⟩ : ∃ t, t = st.length := ⟨_, rfl⟩
          rw [← ht] at cin clk fzl ⊢
          have HT := Lib.hid ht
          have t0 : (0 : Int) ≤ t := by omega
          have t1 : t ≤ 1000 := by omega
          have q1 : (0 : Int) ≤ a := by omega
          have q2 : (a : Int) < next.length := by omega
          have i0 : (0 : Int) ≤ i := by omega
          have i1 : i ≤ 9223372036854775806 := by omega
          obtain ⟨L, hL⟩ : ∃ L, L = (succs next a).length := ⟨_, rfl⟩
          rw [← hL] at cnx hr
          have HLL := Lib.hid hL
          have L1 : L ≤ 9223372036854775806 := by omega
          have hiL : i ≤ L := by omega
          clear hI cnx0 hC1 HS0 hci hcl hsum han hl8 hn hlc1 ht hL hil
          by_cases hi : i = L
          · rw [if_pos hi] at hr
            have HR := Aside0.mk hr
            have d1 : ((i : Int) == (L : Int)) = true := by rw [beq_iff_eq]; omega
            clear hr hi
            go_wp2_with fail
            go_quiet (fail)
            generalize hq_ : World.drewN wr _ = wq
            have HI2 := Lib.hid (HI.out.drewN hq_)
            clear hq_ HI cin clk fzl cnx
            obtain ⟨Ao, co, eo, ro⟩ := own_reads_of (d := (0 : Int)) HI2.out.ho
            subst eo
            have RO := Lib.hid ro
            clear ro
            have l1 : t ≤ ci ∧ t ≤ cl := by have := HBD.out; have := HT.out; omega
            have bd := HI2.out.bel.size
            have sl : (out.length + 1) * 8 ≤ 140737488355328 := by have := HBD.out; omega
            go_wp2_with (at_builtin; refine print_append_row_of (w0 := wq) (α := Int) (Value.int .i64) 0 w.heap.size rfl (.tmp 41) (.tmp 42) 28 3 (.int .i64 0) 8 rfl Try.underlying28 int_info rfl (by decide) (fun _ => rfl) (.slice (some ⟨wq.heap.size, 0, none⟩) 1 1) [(a : Int)] out Ao out.length co rfl rfl ?HO ?HR ?HB ?hb ?hl ?_)
            case HO => exact World.ownsRow_lit (base := w.heap.size) (e := 3) (size := 1) wq #[.int .i64 a] 1 bd (by decide) rfl
            case HR => exact Kd.reads_of_C (h1 := fun _ => rfl) (Kd.C_below (Kd.C_of_reads RO.out) ((Below.refl _ _).alloc (Nat.le_refl _) _))
            case HB => exact (Below.refl _ _).alloc bd _
            case hb => simp; omega
            case hl => simp; omega
            intro v1 w2 hown hb2 hg2 hat2
            obtain ⟨A1, co1, rfl⟩ := own_slice hown
            have hI2 := HI2.out
            have hpop := order_pop (v1 := .slice A1 (out.length + 1) co1) hI2 (.cells #[.int .i64 a] 3) hown hg2 (by simpa [Value.ownBlock] using hat2)
            have HP := Lib.hid hpop
            clear hown hb2 hg2 hat2 hI2 hpop HI2
            go_wp2_with fail
            go_roundg m
            case rel => exact ⟨s, st, _, gi, ci, gl, cl, by rw [HT.out], by rw [HT.out], HP.out, HR⟩
            case measure => omega
          · rw [if_neg hi] at hr
            have HR := Aside0.mk hr
            have d1 : ((i : Int) == (L : Int)) = false := by rw [Bool.eq_false_iff, ne_eq, beq_iff_eq]; omega
            have hil' : (i : Int) < L := by omega
            obtain ⟨ad1, hA1, cx0⟩ := Kd.at_int HC1.out (i : Int) i0 (by rw [← HLL.out]; exact hil')
            subst hA1
            obtain ⟨x, hx⟩ : ∃ x, x = (succs next a).getD i 0 := ⟨_, rfl⟩
            have hrd : rd (succs next a) (i : Int) = x := by rw [hx]; simp [rd]
            rw [hrd, Int.toNat_natCast] at cx0
            have cx := pw_cell_below HI.out.bel cx0
            simp only [← hx] at hr
            have HR := Lib.hid hr
            clear hr hi hx hrd cx0 HC1
            go_wp2_with fail
            go_quiet (fail)
            generalize hq_ : World.drewN wr _ = wq
            have HI2 := Lib.hid (HI.out.drewN hq_)
            have cin2 : wq.cell? ⟨gi, t, none⟩ = some (.int .i64 a) := by rw [← hq_]; exact cin
            have clk2 : wq.cell? ⟨gl, t, none⟩ = some (.int .i64 i) := by rw [← hq_]; exact clk
            have fzl2 : wq.frozen? ⟨gl, t, none⟩ = false := by rw [← hq_]; exact fzl
            have cnx2 : wq.cell? (ad.add a) = some (.slice (some ad1) L c1) := by rw [← hq_]; exact cnx
            have cx2 : wq.cell? (ad1.add i) = some (.int .i64 x) := by rw [← hq_]; exact cx
            clear hq_ HI cin clk fzl cnx cx
            go_wp2_with fail
            go_quiet (fail)
            generalize hq_ : World.drewN wq _ = wp
            have HI3 := Lib.hid (HI2.out.drewN hq_)
            have clk3 : wp.cell? ⟨gl, t, none⟩ = some (.int .i64 i) := by rw [← hq_]; exact clk2
            have fzl3 : wp.frozen? ⟨gl, t, none⟩ = false := by rw [← hq_]; exact fzl2
            clear hq_ HI2 cin2 clk2 fzl2 cnx2 cx2
            have hlook := order_look HI3.out (by rw [← HLL.out]; omega)
            rw [← HT.out] at hlook
            obtain ⟨wl, hwl⟩ : ∃ W, W = wp.setCell ⟨gl, t, none⟩ (.int .i64 ((i : Int) + 1)) := ⟨_, rfl⟩
            rw [← hwl] at hlook
            have HO := Lib.hid hlook
            have HWL := Lib.hid hwl
            clear hlook hwl
            by_cases hc : 0 ≤ x ∧ x < next.length ∧ hit s x = false
            · obtain ⟨x0, x1, x2⟩ := hc
              have hr := HR.out
              rw [if_pos ⟨x0, x1, x2⟩] at hr
              have HR2 := Aside0.mk hr
              obtain ⟨b, rfl⟩ := Int.eq_ofNat_of_zero_le x0
              rw [Int.toNat_natCast] at HR2
              have hbn : b < next.length := by omega
              obtain ⟨hsn, hfz⟩ := order_seen HO.out b false hbn x2
              have hsb : s[b]? = some false := hit_false (by rw [HO.out.sl]; exact hbn) x2
              have hset := order_set HO.out b
              have bd := HO.out.bel.size
              rw [HWL.out] at hsn hfz hset bd
              have HX := Lib.hid (show b < next.length ∧ s[b]? = some false from ⟨hbn, hsb⟩)
              have HSE := Lib.hid hset
              have d1 : (0 : Int) ≤ b := by omega
              have d4 : (b : Int) < next.length := by omega
              have d2 : decide ((0 : Int) ≤ b) = true := decide_eq_true d1
              have d3 : decide ((b : Int) < (next.length : Int)) = true := decide_eq_true d4
              have sl : (t + 1 + 1) * 8 ≤ 140737488355328 := by omega
              have hgl : w.heap.size ≤ gl := (own_lt_ HI3.out.hl).1
              clear hr HR x0 x1 x2 hset hsb hbn
              go_wp2_with (at_builtin; refine print_append_num (w0 := wp) w.heap.size rfl (.tmp 86) (.tmp 88) 28 3 .i64 8 rfl Try.underlying28 int_info (by decide) (.slice (some ⟨gi, 0, none⟩) (t + 1) ci) (ins ((a, i + 1) :: st)) b rfl ?hx (by have := HSE.out; rwa [List.length_cons, ← HT.out] at this) ?HB ?hb ?hl ?_)
              case hx => simp [Act.eval]
              case HB => exact ((Below.refl _ _).setCell (p := ⟨gl, t, none⟩) hgl _).setCell (p := ⟨w.heap.size, b, none⟩) (Nat.le_refl _) _
              case hb => simpa using bd
              case hl => rw [ins_len, List.length_cons, ← HT.out]; exact sl
              intro v1 w2 hown hb2 hg2 hat2
              rw [← HWL.out] at hg2
              have hwz : wp.heap.size = wl.heap.size := by rw [HWL.out]; simp
              rw [hwz] at hat2
              have hn1 : (ins ((a, i + 1) :: st) ++ [(b : Int)]).length = t + 1 + 1 := by rw [List.length_append, ins_len, List.length_cons, ← HT.out]; rfl
              have hown' : w2.ownsRow w.heap.size 3 1 v1 (t + 1 + 1) (nums .i64 (ins ((a, i + 1) :: st) ++ [(b : Int)])) := by rw [← hn1]; simpa using hown
              obtain ⟨gi', ci', rfl, bg1, bg2⟩ := hown'.form (by omega)
              have hat3 : gi' = gi ∨ wl.heap.size ≤ gi' := by
                rcases hat2 with e | ⟨k, e, hk⟩
                · left; simpa [Value.ownBlock] using e
                · right
                  have : gi' = k := by simpa [Value.ownBlock] using e
                  omega
              obtain ⟨ml, mo, ms, mb, mz⟩ := order_mid HO.out b hg2
              have HM := Lib.hid ml
              have HG2 := Lib.hid hg2
              have HA3 := Lib.hid hat3
              have HO2 := Lib.hid hown'
              have bd2 := mb.size
              clear hown hb2 hg2 hat2 hn1 hown' hat3 ml mo ms mb mz bg1 bg2 hsn hfz
              go_wp2_with (at_builtin; refine print_append_num (w0 := w2) w.heap.size rfl (.tmp 90) (.tmp 91) 28 3 .i64 8 rfl Try.underlying28 int_info (by decide) (.slice (some ⟨gl, 0, none⟩) (t + 1) cl) (lks ((a, i + 1) :: st)) 0 rfl rfl (by have := HM.out; rw [lks_len]; rwa [List.length_cons, ← HT.out] at this ⊢) (Below.refl _ _) bd2 (by rw [lks_len, List.length_cons, ← HT.out]; exact sl) ?_)
              intro v2 w3 hown hb3 hg3 hat4
              have hn1 : (lks ((a, i + 1) :: st) ++ [(0 : Int)]).length = t + 1 + 1 := by rw [List.length_append, lks_len, List.length_cons, ← HT.out]; rfl
              have hown' : w3.ownsRow w.heap.size 3 1 v2 (t + 1 + 1) (nums .i64 (lks ((a, i + 1) :: st) ++ [(0 : Int)])) := by rw [← hn1]; simpa using hown
              obtain ⟨gl', cl', rfl, bg1, bg2⟩ := hown'.form (by omega)
              have hat5 : gl' = gl ∨ w2.heap.size ≤ gl' := by
                rcases hat4 with e | ⟨k, e, hk⟩
                · left; simpa [Value.ownBlock] using e
                · right
                  have : gl' = k := by simpa [Value.ownBlock] using e
                  omega
              have hln : ((a, i + 1) :: st).length + 1 = t + 1 + 1 := by rw [List.length_cons, ← HT.out]
              have hpush := order_push (a := a) (i := i) HO.out b HX.out.1 HX.out.2 HG2.out (by rw [hln]; exact HO2.out) HA3.out hg3 (by rw [hln]; exact hown') hat5
              have HPU := Lib.hid hpush
              clear hown hb3 hg3 hat4 hn1 hown' hat5 hln hpush bg1 bg2 HO2 HA3 HG2 HM HSE
              go_wp2_with fail
              go_roundg m
              case rel => exact ⟨s.set b true, (b, 0) :: (a, i + 1) :: st, out, gi', ci', gl', cl', by rw [HT.out, List.length_cons, List.length_cons], by rw [HT.out, List.length_cons, List.length_cons], HPU.out, HR2⟩
              case measure => omega
            · have hr := HR.out
              rw [if_neg hc] at hr
              have HR2 := Aside0.mk hr
              clear hr HR
              by_cases x0 : x < 0
              · have d2 : decide (0 ≤ x) = false := decide_eq_false (by omega)
                clear hc x0
                go_wp2_with fail
                rw [← HWL.out]
                go_roundg m
                case rel => exact ⟨s, (a, i + 1) :: st, out, gi, ci, gl, cl, by rw [HT.out, List.length_cons], by rw [HT.out, List.length_cons], HO.out, HR2⟩
                case measure => omega
              · by_cases x1 : (next.length : Int) ≤ x
                · have d2 : decide (0 ≤ x) = true := decide_eq_true (by omega)
                  have d3 : decide (x < (next.length : Int)) = false := decide_eq_false (by omega)
                  clear hc x0 x1
                  go_wp2_with fail
                  rw [← HWL.out]
                  go_roundg m
                  case rel => exact ⟨s, (a, i + 1) :: st, out, gi, ci, gl, cl, by rw [HT.out, List.length_cons], by rw [HT.out, List.length_cons], HO.out, HR2⟩
                  case measure => omega
                · obtain ⟨b, rfl⟩ := Int.eq_ofNat_of_zero_le (show 0 ≤ x by omega)
                  have hsn := (order_seen HO.out b true (by omega) (by
                    rcases e : hit s (b : Int) with _ | _
                    · exact absurd ⟨by omega, by omega, e⟩ hc
                    · rfl)).1
                  rw [HWL.out] at hsn
                  have d1 : (0 : Int) ≤ b := by omega
                  have d4 : (b : Int) < next.length := by omega
                  have d2 : decide ((0 : Int) ≤ b) = true := decide_eq_true d1
                  have d3 : decide ((b : Int) < (next.length : Int)) = true := decide_eq_true d4
                  clear hc x0 x1
                  go_wp2_with fail
                  rw [← HWL.out]
                  go_roundg m
                  case rel => exact ⟨s, (a, i + 1) :: st, out, gi, ci, gl, cl, by rw [HT.out, List.length_cons], by rw [HT.out, List.length_cons], HO.out, HR2⟩
                  case measure => omega
end Go.Proofs.Ytnlapancooecjaa
