/- The walk of the statement FlowRows. Conditions: none beyond the row's reach. -/
import Derived.Test.YtnlapancooecjaaSml
import Derived.Test.YtnlapancooecjaaRel
namespace Go.Proofs.Ytnlapancooecjaa
open Go.RowKit Go.Proofs.YtnlapancooecjaaW.PrintWords
set_option linter.unusedVariables false
set_option linter.unusedSimpArgs false

/-- An array of whole numbers that came in. -/
theorem arr_in {H : Type} {enc : TypeId × Value → H} {P : Program} {W : World} {base : Nat} {spare : Nat → Bool} {held : Bool} {t e : TypeId} {n : Nat} {k : IntKind} {fuel : Nat} {cs : List Value} {x : DataW H × List MemPlace} (ht : P.underlying t = some (.array n e)) (he : P.underlying e = some (.int k)) (ce : P.cellsOf e = 1) (ct : P.cellsOf t = n)
    (h : DataW.trod enc P W base spare held fuel t cs = some x) : ∃ l : List Int, l.length = n ∧ cs = l.map (Value.int k) ∧ ∀ y ∈ l, (Lit.int k y).wf = true := by
  obtain ⟨xs, m, rfl, rfl, hl, hxl, hel⟩ := DataW.trod_array ht h
  rw [ct] at hl
  have each : ∀ i, i < n → ∃ y : Int, cs[i]? = some (.int k y) ∧ (Lit.int k y).wf = true := by
    intro i hi
    have h1 := hel i hi
    rw [List.getElem?_eq_getElem (by omega)] at h1
    obtain ⟨y, hy, _, hw⟩ := DataW.trod_int he h1
    refine ⟨y, ?_, hw⟩
    rw [ce, Nat.mul_one, List.drop_eq_getElem_cons (by omega)] at hy
    simp only [List.take_succ_cons, List.take_zero, List.cons.injEq, and_true] at hy
    rw [List.getElem?_eq_getElem (by omega), hy]
  obtain ⟨l, hll, hp⟩ := list_of_lt each
  refine ⟨l, hll, ?_, ?_⟩
  · apply List.ext_getElem?
    intro i
    by_cases hi : i < n
    · have := hp i l[i] (List.getElem?_eq_getElem (by omega))
      rw [this.1, List.getElem?_map, List.getElem?_eq_getElem (by omega)]
      rfl
    · rw [List.getElem?_eq_none (by omega), List.getElem?_eq_none (by simp; omega)]
  · intro y hy
    obtain ⟨i, hi⟩ := List.getElem?_of_mem hy
    exact (hp i y hi).2
theorem agg_of_cells {v : Value} {cs : List Value} (h : v.cells.toList = cs) (hl : cs.length ≠ 1) : v = .agg cs.toArray := by
  cases v with
  | agg c => simp only [Value.cells] at h; subst h; rfl
  | _ => exfalso; apply hl; rw [← h]; rfl
theorem u8_bounds {y : Int} (h : (Lit.int .u8 y).wf = true) : 0 ≤ y ∧ y ≤ 255 := by
  simp only [Lit.wf, Bool.and_eq_true, decide_eq_true_eq] at h
  have h1 : IntKind.u8.min = 0 := rfl
  have h2 : IntKind.u8.max = 255 := rfl
  omega

set_option maxHeartbeats 2000000 in
theorem flowRows_any (w : World) (next : List (List Int)) (A : Option Addr) (c : Nat) (hc : next.length ≤ c) (hC : (Kd.slice 3 (Kd.int .i64)).C w A next.length next) (hsz : next.length * 24 ≤ 140737488351232)
    (hlen : ∀ b, (succs next b).length * 8 ≤ 140737488351232) (x y z : Nat) (hx : x ≤ 255) (hy : y ≤ 255) (hz : z ≤ 255) : Calls Try.prog 9 #[.slice A next.length c, .agg #[.int .u8 x, .int .u8 y, .int .u8 z]] w (BoolPost w true) := by
  obtain ⟨s, k1, hs, hsm⟩ := small_any next 60 250 (by omega) (by omega) hlen hsz
  have HC := Lib.hid hC
  have HS := Aside0.mk hs
  have HW0 := Lib.hid (show Below w.heap.size w (w.alloc (.cells #[.int .u8 x, .int .u8 y, .int .u8 z] 34)) from (Below.refl _ _).alloc (Nat.le_refl _) _)
  cases s with
  | false =>
    clear hC hs hsm hlen
    go_enter Try.func9, Try.ntmps9
    go_wp2_with fail
    refine (awake_any _).mono ?_
    rintro e w1 ⟨rfl, hB1⟩
    have HB1 := Lib.hid (below_then HW0.out HW0.out.size hB1)
    clear hB1
    go_wp2_with fail
    refine (PFlowMust.seedcornref26_Small.calls k1 A c next 60 250 false w1 (Kd.C_below HC.out HB1.out) hc HS.out).mono ?_
    rintro e w2 ⟨rfl, ⟨n2, rfl⟩⟩
    go_wp2_with fail
    go_ret
    exact ⟨rfl, pw_below_drewN HB1.out n2⟩
  | true =>
    have HFIN := Lib.hid (show ∀ ab bc ac ba : Bool, mustF next x y = ab → mustF next y z = bc → mustF next x z = ac → mustF next y x = ba → ((ab && bc && !ac) || (ab && ba && ((x : Int) != y))) = false ∧ (!ac || !bc || ab || ba) = true from by
      intro ab bc ac ba h1 h2 h3 h4
      have t1 : ab = true → bc = true → ac = true := fun a b => by rw [← h3]; exact must_trans next x y z (h1.trans a) (h2.trans b)
      have t2 : ab = true → ba = true → x = y := fun a b => must_anti next x y (h1.trans a) (h4.trans b)
      have t3 : ac = true → bc = true → ab = true ∨ ba = true := fun a b => by rw [← h1, ← h4]; exact must_row next x y z (h3.trans a) (h2.trans b)
      by_cases e : x = y
      · subst e
        cases ab <;> cases bc <;> cases ac <;> cases ba <;> simp_all
      · have e' : ((x : Int) != y) = true := by rw [bne_iff_ne]; omega
        rw [e']
        cases ab <;> cases bc <;> cases ac <;> cases ba <;> simp_all)
    obtain ⟨ab, hab⟩ : ∃ r, mustF next x y = r := ⟨_, rfl⟩
    obtain ⟨bc, hbc⟩ : ∃ r, mustF next y z = r := ⟨_, rfl⟩
    obtain ⟨ac, hac⟩ : ∃ r, mustF next x z = r := ⟨_, rfl⟩
    obtain ⟨ba, hba⟩ : ∃ r, mustF next y x = r := ⟨_, rfl⟩
    have HF := Lib.hid (HFIN.out ab bc ac ba hab hbc hac hba)
    have M1 := Lib.hid hab
    have M2 := Lib.hid hbc
    have M3 := Lib.hid hac
    have M4 := Lib.hid hba
    clear hC hs hsm hlen HFIN hab hbc hac hba
    have x0 : (0 : Int) ≤ x := by omega
    have x1 : (x : Int) ≤ 255 := by omega
    have y0 : (0 : Int) ≤ y := by omega
    have y1 : (y : Int) ≤ 255 := by omega
    have z0 : (0 : Int) ≤ z := by omega
    have z1 : (z : Int) ≤ 255 := by omega
    clear hx hy hz
    have HCL := Lib.hid (show ∀ W : World, Below (w.heap.size + 1) (w.alloc (.cells #[.int .u8 x, .int .u8 y, .int .u8 z] 34)) W → W.cell? ⟨w.heap.size, 0, none⟩ = some (.int .u8 x) ∧ W.cell? ⟨w.heap.size, 1, none⟩ = some (.int .u8 y) ∧ W.cell? ⟨w.heap.size, 2, none⟩ = some (.int .u8 z) from by
      intro W hW
      have h := (hW.block w.heap.size (by omega)).trans (heap_alloc_new w (.cells #[.int .u8 x, .int .u8 y, .int .u8 z] 34))
      exact ⟨cell_of_blk h 0 _ rfl, cell_of_blk h 1 _ rfl, cell_of_blk h 2 _ rfl⟩)
    go_enter Try.func9, Try.ntmps9
    go_wp2_with fail
    refine (awake_any _).mono ?_
    rintro e w1 ⟨rfl, hB1⟩
    have HB1 := Lib.hid (below_then HW0.out HW0.out.size hB1)
    have HB1' := Lib.hid hB1
    clear hB1
    go_wp2_with fail
    refine (PFlowMust.seedcornref26_Small.calls k1 A c next 60 250 true w1 (Kd.C_below HC.out HB1.out) hc HS.out).mono ?_
    rintro e w2 ⟨rfl, ⟨n2, hn2⟩⟩
    have HB2 := Lib.hid (show Below w.heap.size w w2 by rw [hn2]; exact pw_below_drewN HB1.out n2)
    obtain ⟨q0, q1, q2⟩ := HCL.out w2 (by rw [hn2]; have := pw_below_drewN HB1'.out n2; simpa using this)
    clear hn2
    go_wp2_with fail
    refine (must_any w2 next A c hc (Kd.C_below HC.out HB2.out) hsz x y).mono ?_
    rw [M1.out]
    rintro e w3 ⟨rfl, hB3⟩
    have HB3 := Lib.hid (below_then HB2.out HB2.out.size hB3)
    clear hB3 q0 q1 q2
    go_wp2_with fail
    refine (must_any w3 next A c hc (Kd.C_below HC.out HB3.out) hsz y z).mono ?_
    rw [M2.out]
    rintro e w4 ⟨rfl, hB4⟩
    have HB4 := Lib.hid (below_then HB3.out HB3.out.size hB4)
    clear hB4
    go_wp2_with fail
    refine (must_any w4 next A c hc (Kd.C_below HC.out HB4.out) hsz x z).mono ?_
    rw [M3.out]
    rintro e w5 ⟨rfl, hB5⟩
    have HB5 := Lib.hid (below_then HB4.out HB4.out.size hB5)
    clear hB5
    go_wp2_with fail
    refine (must_any w5 next A c hc (Kd.C_below HC.out HB5.out) hsz y x).mono ?_
    rw [M4.out]
    rintro e w6 ⟨rfl, hB6⟩
    have HB6 := Lib.hid (below_then HB5.out HB5.out.size hB6)
    clear hB6
    obtain ⟨f1, f2⟩ := HF.out
    obtain ⟨d, hd⟩ : ∃ d, ((x : Int) != y) = d := ⟨_, rfl⟩
    rw [hd] at f1
    have HD := Lib.hid hd
    clear hd M1 M2 M3 M4 HF
    cases ab <;> cases bc <;> cases ac <;> cases ba <;> (first | (exfalso; revert f2; decide) | (cases d <;> first | (exfalso; revert f1; decide) | (have hd := HD.out; clear f1 f2 HD; go_wp2_with fail; go_ret; exact ⟨rfl, HB6.out⟩)))

theorem flowRows_row (W : World) {a0 : Option Addr} {len0 cap0 : Nat} (next : List (List Int)) (hK : (Kd.slice 28 (Kd.slice 3 (Kd.int .i64))).K W next (Value.slice a0 len0 cap0).cells.toList)
    (ok : next.length * 24 ≤ reachBytes ∧ ∀ x ∈ next, x.length * 8 ≤ reachBytes ∧ ∀ y ∈ x, (Lit.int .i64 y).wf = true) (l : List Int) (hl : l.length = 3) (okl : ∀ y ∈ l, (Lit.int .u8 y).wf = true) :
    Calls Try.prog 9 #[.slice a0 len0 cap0, .agg (l.map (Value.int .u8)).toArray] W (BoolPost W true) := by
  obtain ⟨rfl, hc, hC, hsz, hlen⟩ := graph_in hK ok
  match l, hl with
  | [x, y, z], _ =>
    obtain ⟨x0, x1⟩ := u8_bounds (okl x (by simp))
    obtain ⟨y0, y1⟩ := u8_bounds (okl y (by simp))
    obtain ⟨z0, z1⟩ := u8_bounds (okl z (by simp))
    obtain ⟨x, rfl⟩ := Int.eq_ofNat_of_zero_le x0
    obtain ⟨y, rfl⟩ := Int.eq_ofNat_of_zero_le y0
    obtain ⟨z, rfl⟩ := Int.eq_ofNat_of_zero_le z0
    exact flowRows_any W next a0 cap0 hc hC hsz hlen x y z (by omega) (by omega) (by omega)
end Go.Proofs.Ytnlapancooecjaa
