/- The stack machine's do is the plain doF. Conditions: rows below 2^47 bytes. -/
import Derived.Test.YtlngcolnjgloaaaDoe
namespace Go.Proofs.Ytlngcolnjgloaaa
open Go.RowKit Go.Proofs.YtlngcolnjgloaaaW.PrintWords PStackRuns
set_option linter.unusedVariables false
set_option linter.unusedSimpArgs false

theorem do_any {w0 W : World} {mb wb sc fb : Nat} {ps : List (Nat × Value)} {outv callsv v : Value} {sw : Int} {SA : Option Addr} {fs : List S28} {m : Mc} {x : Fr} {xs : List Fr}
    (h : Mach w0 W mb ((fb, v) :: ps) wb outv callsv sw SA sc fs m) (hm : m.calls = x :: xs) (hC : k28.C w0 SA fs.length fs) (i : S25) (m' : Mc) (hd : doF fs i m = some m')
    (bl : ∀ y ∈ m.calls, y.l.length ≤ 1000000) (bc : m.calls.length ≤ 1000000) (bw : m.words.length ≤ 1000000) (bo : m.out.length ≤ 65536) :
    Calls Try.prog 21 #[.pointer (some ⟨mb, 0, none⟩), .pointer (some ⟨fb, 0, none⟩), insV i] W fun e' w' => isRet e' ∧ Keep W w' ∧ ∃ ps1 outv1 callsv1, Mach w0 w' mb ps1 wb outv1 callsv1 sw SA sc fs m' := by
  obtain ⟨f0, f1, f2, f3⟩ := i
  have hps : ps.length = xs.length := by
    have := Frs.len h.frs
    rw [hm] at this
    simpa using this
  have hxl : x.l.length ≤ 1000000 := bl x (by rw [hm]; simp)
  have hxc : xs.length + 1 ≤ 1000000 := by rw [hm] at bc; simpa using bc
  simp only [doF, hm] at hd
  by_cases c1 : f0 = 1
  · subst c1
    rw [if_pos rfl] at hd
    injection hd with hd
    subst hd
    exact do_push h hm (by omega)
  rw [if_neg c1] at hd
  by_cases c2 : f0 = 2
  · subst c2
    rw [if_pos rfl] at hd
    split at hd
    case isFalse => cases hd
    rename_i hc
    injection hd with hd
    subst hd
    exact do_load h hm (by omega) hc.1 hc.2
  rw [if_neg c2] at hd
  by_cases c3 : f0 = 3
  · subst c3
    rw [if_pos rfl] at hd
    cases hx : x.l with
    | nil => rw [hx] at hd; cases hd
    | cons u l =>
      rw [hx] at hd
      simp only at hd
      split at hd
      case isFalse => cases hd
      rename_i hc
      injection hd with hd
      subst hd
      exact do_store h hm hx hc.1 hc.2
  rw [if_neg c3] at hd
  by_cases c4 : f0 = 4
  · subst c4
    rw [if_pos rfl] at hd
    cases hx : x.l with
    | nil => rw [hx] at hd; cases hd
    | cons u l =>
      rw [hx] at hd
      simp only at hd
      split at hd
      case isFalse => cases hd
      rename_i hc
      split at hd
      · rename_i hu
        split at hd
        case isFalse => cases hd
        rename_i hw
        injection hd with hd
        subst hd
        exact do_aload_near h hm hx hc.1 hc.2.2.1 hc.2.2.2 hu hc.2.1 hw (by omega) bw
      · rename_i hu
        injection hd with hd
        subst hd
        exact do_aload_far h hm hx hc.1 hc.2.2.1 hc.2.2.2 hu
  rw [if_neg c4] at hd
  by_cases c5 : f0 = 5
  · subst c5
    rw [if_pos rfl] at hd
    cases hx : x.l with
    | nil => rw [hx] at hd; cases hd
    | cons y l0 =>
      cases l0 with
      | nil => rw [hx] at hd; cases hd
      | cons u l =>
        rw [hx] at hd
        simp only at hd
        split at hd
        case isFalse => cases hd
        rename_i hc
        split at hd
        · rename_i hu
          split at hd
          case isFalse => cases hd
          rename_i hw
          injection hd with hd
          subst hd
          exact do_astore_near h hm hx hc.1 hc.2.2.1 hc.2.2.2 hu hc.2.1 hw bw
        · rename_i hu
          injection hd with hd
          subst hd
          exact do_astore_far h hm hx hc.1 hc.2.2.1 hc.2.2.2 hu
  rw [if_neg c5] at hd
  by_cases c6 : f0 = 6
  · subst c6
    rw [if_pos rfl] at hd
    cases hx : x.l with
    | nil => rw [hx] at hd; cases hd
    | cons b l0 =>
      cases l0 with
      | nil => rw [hx] at hd; cases hd
      | cons a l =>
        rw [hx] at hd
        simp only at hd
        cases ha : word_Apply.f 1 f1 a b with
        | none => rw [ha] at hd; cases hd
        | some ve =>
          obtain ⟨r, e⟩ := ve
          rw [ha] at hd
          simp only at hd
          refine do_op h hm hx ha (by omega) m' ?_
          by_cases he : e = 0
          · rw [if_pos he] at hd ⊢
            injection hd with hd
            exact hd.symm
          · rw [if_neg he] at hd ⊢
            injection hd with hd
            exact hd.symm
  rw [if_neg c6] at hd
  by_cases c7 : f0 = 7
  · subst c7
    rw [if_pos rfl] at hd
    cases hx : x.l with
    | nil => rw [hx] at hd; cases hd
    | cons u l =>
      rw [hx] at hd
      simp only at hd
      injection hd with hd
      by_cases hu : u = 0
      · subst hu
        rw [if_pos rfl] at hd
        subst hd
        exact do_not0 h hm hx (by omega)
      · rw [if_neg hu] at hd
        subst hd
        exact do_not1 h hm hx hu (by omega)
  rw [if_neg c7] at hd
  by_cases c8 : f0 = 8
  · subst c8
    rw [if_pos rfl] at hd
    injection hd with hd
    subst hd
    exact do_jump h hm
  rw [if_neg c8] at hd
  by_cases c9 : f0 = 9
  · subst c9
    rw [if_pos rfl] at hd
    cases hx : x.l with
    | nil => rw [hx] at hd; cases hd
    | cons u l =>
      rw [hx] at hd
      simp only at hd
      by_cases hu : u = 0
      · subst hu
        rw [if_pos rfl] at hd
        injection hd with hd
        subst hd
        exact do_zero h hm hx
      · rw [if_neg hu] at hd
        injection hd with hd
        subst hd
        exact do_nonzero h hm hx hu
  rw [if_neg c9] at hd
  by_cases c10 : f0 = 10
  · subst c10
    rw [if_pos rfl] at hd
    split at hd
    case isFalse => cases hd
    rename_i hc
    obtain ⟨n, hn⟩ := Int.eq_ofNat_of_zero_le hc.2.2.1
    have hnl : n ≤ x.l.length := by omega
    have e1 : (rd_T28 fs f1).f0.toNat = n := by omega
    rw [e1] at hd
    refine do_call (args := (x.l.take n).reverse) (l := x.l.drop n) h hm hC hc.1 hc.2.1 ?_ ?_ (by omega) m' hd (by simp only [List.length_cons]; omega) bw
    · rw [hn, List.length_reverse, List.length_take]
      omega
    · rw [List.reverse_reverse, List.take_append_drop]
  rw [if_neg c10] at hd
  by_cases c11 : f0 = 11
  · subst c11
    rw [if_pos rfl] at hd
    cases xs with
    | nil =>
      simp only at hd
      injection hd with hd
      subst hd
      exact do_end h hm rfl
    | cons y ys =>
      simp only at hd
      by_cases hw : x.f.f3 = true
      · rw [if_pos hw] at hd
        cases hx : x.l with
        | nil => rw [hx] at hd; cases hd
        | cons u l =>
          rw [hx] at hd
          simp only at hd
          injection hd with hd
          subst hd
          have hyl : y.l.length ≤ 1000000 := bl y (by rw [hm]; simp)
          exact do_back_yes h hm rfl hw hx (by omega) (by rw [hps]; simp at hxc ⊢; omega)
      · rw [if_neg hw] at hd
        injection hd with hd
        subst hd
        exact do_back_no h hm rfl (by simpa using hw)
  rw [if_neg c11] at hd
  by_cases c12 : f0 = 12
  · subst c12
    rw [if_pos rfl] at hd
    refine do_get h hm (by omega) m' ?_
    by_cases hs : m.inp.size = 0
    · rw [if_pos hs] at hd ⊢
      injection hd with hd
      exact hd.symm
    · rw [if_neg hs] at hd ⊢
      injection hd with hd
      exact hd.symm
  rw [if_neg c12] at hd
  by_cases c13 : f0 = 13
  · subst c13
    rw [if_pos rfl] at hd
    cases hx : x.l with
    | nil => rw [hx] at hd; cases hd
    | cons u l =>
      rw [hx] at hd
      simp only at hd
      refine do_put h hm hx bo m' ?_
      by_cases hs : (65536 : Int) ≤ m.out.length
      · rw [if_pos hs] at hd ⊢
        injection hd with hd
        exact hd.symm
      · rw [if_neg hs] at hd ⊢
        injection hd with hd
        exact hd.symm
  rw [if_neg c13] at hd
  cases hd
end Go.Proofs.Ytlngcolnjgloaaa
