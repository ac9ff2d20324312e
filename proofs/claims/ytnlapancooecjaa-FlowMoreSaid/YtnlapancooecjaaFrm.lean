/- Lemmas on a slice, made by the call, whose elements are slices made by the call. Conditions: none. -/
import Derived.Test.YtnlapancooecjaaDeep
namespace Go.Proofs.Ytnlapancooecjaa
set_option linter.unusedVariables false
set_option linter.unusedSimpArgs false
open Go.RowKit Go.Proofs.YtnlapancooecjaaW.PrintWords

/-! ### A slice of the call's own whose elements are slices of whole numbers of the call's own -/
structure FromW (w : World) (base g : Nat) (fr : List (List Int)) (vs : List Value) : Prop where
  len : vs.length = fr.length
  blk : w.heap[g]? = some (.cells vs.toArray 28 (0, 0))
  own : ∀ (i : Nat) (v : Value) (xs : List Int), vs[i]? = some v → fr[i]? = some xs → w.ownsRow base 3 1 v xs.length (nums .i64 xs)
  ne : ∀ (i : Nat) (v : Value), vs[i]? = some v → v.ownBlock ≠ some g
  apart : ∀ (i j : Nat) (vi vj : Value), i ≠ j → vs[i]? = some vi → vs[j]? = some vj → vi.ownBlock = none ∨ vi.ownBlock ≠ vj.ownBlock

theorem FromW.start {w : World} {base g : Nat} (n : Nat) (h : w.heap[g]? = some (.cells (madeCells #[.slice none 0 0] n) 28 (0, 0))) : FromW w base g (List.replicate n []) (List.replicate n (.slice none 0 0)) where
  len := by simp
  blk := by
    rw [h]
    congr 2
    apply Array.ext
    · simp [madeCells]
    · intro i h1 h2
      have h0 : i % 1 = 0 := Nat.mod_one i
      simp [madeCells, h0]
  own := by
    intro i v xs h1 h2
    rw [List.getElem?_replicate] at h1 h2
    split at h1
    · rw [if_pos (by assumption)] at h2
      cases h1
      cases h2
      exact own_nil _ _ _ _
    · cases h1
  ne := by
    intro i v h1
    rw [List.getElem?_replicate] at h1
    split at h1
    · cases h1; simp [Value.ownBlock]
    · cases h1
  apart := by
    intro i j vi vj _ h1 _
    rw [List.getElem?_replicate] at h1
    split at h1
    · cases h1; exact .inl rfl
    · cases h1

theorem FromW.cell {w : World} {base g : Nat} {fr : List (List Int)} {vs : List Value} (h : FromW w base g fr vs) (i : Nat) (v : Value) (hv : vs[i]? = some v) : w.cell? ⟨g, i, none⟩ = some v := by simp [World.cell?, h.blk, hv]
theorem FromW.free {w : World} {base g : Nat} {fr : List (List Int)} {vs : List Value} (h : FromW w base g fr vs) (i : Nat) : w.frozen? ⟨g, i, none⟩ = false := by simp [World.frozen?, h.blk]

/-- Whatever leaves the blocks of the rows, and g, as they were. -/
theorem FromW.move {w w' : World} {base g : Nat} {fr : List (List Int)} {vs : List Value} (h : FromW w base g fr vs) (hk : ∀ k, (k = g ∨ base ≤ k) → k < w.heap.size → w'.heap[k]? = w.heap[k]?) : FromW w' base g fr vs where
  len := h.len
  blk := by rw [hk g (.inl rfl) (lt_of_block h.blk)]; exact h.blk
  own := fun i v xs h1 h2 => own_move (h.own i v xs h1 h2) (fun k hk' => hk k (.inr (own_base (h.own i v xs h1 h2) k hk')) (own_lt (h.own i v xs h1 h2) k hk'))
  ne := h.ne
  apart := h.apart

theorem FromW.put {w W w1 : World} {base g : Nat} {fr : List (List Int)} {vs : List Value} (h : FromW w base g fr vs) (hW : FromW W base g fr vs) (i : Nat) (v v1 : Value) (xs ys : List Int) (hv : vs[i]? = some v) (hx : fr[i]? = some xs)
    (hown : w1.ownsRow base 3 1 v1 ys.length (nums .i64 ys)) (hg : W.grownBy w1 v.ownBlock) (hat : v1.ownBlock = v.ownBlock ∨ ∃ b, v1.ownBlock = some b ∧ W.heap.size ≤ b) :
    FromW (w1.setCell ⟨g, i, none⟩ v1) base g (fr.set i ys) (vs.set i v1) := by
  have hgW := lt_of_block hW.blk
  have hb1 : w1.heap[g]? = some (.cells vs.toArray 28 (0, 0)) := (hg.block g hgW (fun e => hW.ne i v hv e.symm)).trans hW.blk
  have hi : i < vs.length := (List.getElem?_eq_some_iff.1 hv).1
  have hif : i < fr.length := (List.getElem?_eq_some_iff.1 hx).1
  have hne1 : v1.ownBlock ≠ some g := by
    rcases hat with e | ⟨b, e, hb⟩
    · rw [e]; exact hW.ne i v hv
    · rw [e]; intro h; injection h with h; omega
  have hapart1 : ∀ j vj, j ≠ i → vs[j]? = some vj → vj.ownBlock = none ∨ vj.ownBlock ≠ v1.ownBlock := by
    intro j vj hj h1
    rcases hat with e | ⟨b, e, hb⟩
    · rw [e]; exact hW.apart j i vj v hj h1 hv
    · cases hbk : vj.ownBlock with
      | none => exact .inl rfl
      | some k =>
        right
        rw [e]
        intro h
        injection h with h
        have hjl : j < vs.length := (List.getElem?_eq_some_iff.1 h1).1
        have hjf : j < fr.length := by rw [← hW.len]; exact hjl
        have := own_lt (hW.own j vj fr[j] h1 (List.getElem?_eq_getElem hjf)) k hbk
        omega
  refine ⟨by simp [hW.len], ?_, ?_, ?_, ?_⟩
  · simp only [World.setCell, Array.getElem?_modify, if_true, hb1, Option.map_some]
    simp
  · intro j u zs h1 h2
    by_cases hj : j = i
    · subst hj
      rw [List.getElem?_set_self hi] at h1
      rw [List.getElem?_set_self hif] at h2
      cases h1; cases h2
      exact own_setCell hown (by intro e; exact hne1 e.symm) _
    · rw [List.getElem?_set_ne (Ne.symm hj)] at h1 h2
      refine own_setCell (own_other (hW.own j u zs h1 h2) hg ?_) (by intro e; exact hW.ne j u h1 e.symm) _
      exact hW.apart j i u v hj h1 hv
  · intro j u h1
    by_cases hj : j = i
    · subst hj
      rw [List.getElem?_set_self hi] at h1
      cases h1
      exact hne1
    · rw [List.getElem?_set_ne (Ne.symm hj)] at h1
      exact hW.ne j u h1
  · intro j k vj vk hjk h1 h2
    by_cases hj : j = i
    · subst hj
      rw [List.getElem?_set_self hi] at h1
      cases h1
      rw [List.getElem?_set_ne (by omega)] at h2
      rcases hapart1 k vk (by omega) h2 with e | e
      · cases hv1 : v1.ownBlock with
        | none => exact .inl rfl
        | some b => right; rw [e]; simp
      · exact .inr (fun e' => e e'.symm)
    · rw [List.getElem?_set_ne (Ne.symm hj)] at h1
      by_cases hk : k = i
      · subst hk
        rw [List.getElem?_set_self hi] at h2
        cases h2
        exact hapart1 j vj hj h1
      · rw [List.getElem?_set_ne (Ne.symm hk)] at h2
        exact hW.apart j k vj vk hjk h1 h2
end Go.Proofs.Ytnlapancooecjaa
