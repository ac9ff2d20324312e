/- The law of FlowRow's climb: from b up by the nearest ones it comes to just those that must be gone through, and ends. Conditions: none. Plain Lean. -/
import Derived.Test.YtnlapancooecjaaFab
import Derived.Test.YtnlapancooecjaaCut
namespace Go.Proofs.Ytnlapancooecjaa
open Go.RowKit Go.Proofs.YtnlapancooecjaaW.PrintWords
set_option linter.unusedVariables false
set_option linter.unusedSimpArgs false

/-- At the i-th turn of the climb. -/
def RowS (next : List (List Int)) (pl r : List Int) (a b i : Nat) (at_ : Int) (found : Bool) : Prop :=
  (at_ = -1 ∧ (found = true ↔ Anc r b a)) ∨ ∃ v : Nat, at_ = v ∧ v < next.length ∧ Anc r b v ∧ (i = 0 ∨ rd pl v + i ≤ rd pl b) ∧ (found = true ↔ (Anc r b a ∧ ¬ Anc r v a))

theorem rowS_start (next : List (List Int)) (pl r : List Int) (a b : Nat) (hb : b < next.length) : RowS next pl r a b 0 b false :=
  .inr ⟨b, rfl, hb, .refl b, .inl rfl, by simp⟩

theorem rowS_bound {next : List (List Int)} {pl r : List Int} (hD : Dm next pl) {a b i : Nat} {at_ : Int} {found : Bool} (h : RowS next pl r a b i at_ found) (h0 : 0 ≤ at_) : (i : Int) ≤ next.length := by
  rcases h with ⟨e, _⟩ | ⟨v, _, _, _, h1, _⟩
  · omega
  · have := hD.plnn v
    have := hD.plle b
    omega

theorem rowS_step {next : List (List Int)} {pl r : List Int} (hD : Dm next pl) (hT : Tr next pl r) {a b i v : Nat} {found : Bool} (h : RowS next pl r a b i v found) :
    v < next.length ∧ (rd r (v : Nat) = -1 ∨ ∃ u : Nat, rd r (v : Nat) = u ∧ u < next.length ∧ rd pl u < rd pl v) ∧ RowS next pl r a b (i + 1) (rd r (v : Nat)) (found || ((v : Int) == a)) := by
  rcases h with ⟨e, _⟩ | ⟨v', e, hv, hbv, hi, hf⟩
  · omega
  · have : v' = v := by omega
    subst this
    have hlo := hT.lo v'
    have hfound : (found || ((v' : Int) == a)) = true ↔ ((Anc r b a ∧ ¬ Anc r v' a) ∨ v' = a) := by
      rw [Bool.or_eq_true, hf, beq_iff_eq]
      constructor
      · rintro (h | h)
        · exact .inl h
        · exact .inr (by omega)
      · rintro (h | h)
        · exact .inl h
        · exact .inr (by omega)
    by_cases h0 : 0 ≤ rd r (v' : Nat)
    · obtain ⟨u, hu⟩ := Int.eq_ofNat_of_zero_le h0
      have hup : up r v' = some u := by
        unfold up
        rw [if_pos ⟨by rw [hT.len]; exact hv, h0⟩, hu]
        rfl
      have hp := hT.par v' u hup
      have hul := (Kn.rt hD hT hp.2.1).lt
      refine ⟨hv, .inr ⟨u, hu, hul, hp.2.2⟩, .inr ⟨u, hu, hul, hbv.trans (.step hup (.refl u)), ?_, ?_⟩⟩
      · right
        rcases Anc.le hD hT hbv with h1 | h1
        · subst h1
          omega
        · omega
      · rw [hfound]
        constructor
        · rintro (⟨h1, h2⟩ | h1)
          · exact ⟨h1, fun hh => h2 (.step hup hh)⟩
          · subst h1
            refine ⟨hbv, fun hh => ?_⟩
            rcases Anc.le hD hT hh with h1 | h1
            · have := hp.2.2
              rw [h1] at this
              omega
            · have := hp.2.2
              omega
        · rintro ⟨h1, h2⟩
          by_cases hva : v' = a
          · exact .inr hva
          · refine .inl ⟨h1, fun hh => ?_⟩
            rcases hh.cases_ with h3 | ⟨u', e', h3⟩
            · exact hva h3
            · rw [hup] at e'
              cases e'
              exact h2 h3
    · have hm : rd r (v' : Nat) = -1 := by omega
      have hup : up r v' = none := by
        unfold up
        rw [if_neg (fun h => h0 h.2)]
      refine ⟨hv, .inl hm, .inl ⟨hm, ?_⟩⟩
      rw [hfound]
      constructor
      · rintro (⟨h1, _⟩ | h1)
        · exact h1
        · subst h1; exact hbv
      · intro h1
        by_cases hva : v' = a
        · exact .inr hva
        · refine .inl ⟨h1, fun hh => ?_⟩
          rcases hh.cases_ with h3 | ⟨u', e', h3⟩
          · exact hva h3
          · rw [hup] at e'
            cases e'

theorem rowS_end {next : List (List Int)} {pl r ord : List Int} (hD : Dm next pl) (hA : AbDone next pl ord r) {a b i : Nat} {at_ : Int} {found : Bool} (h : RowS next pl r a b i at_ found) (h0 : at_ < 0) :
    mustF next a b = ((reachF next).getD b false && found) := by
  rcases h with ⟨e, hf⟩ | ⟨v, e, _⟩
  · have h1 : (reachF next).getD b false = true ↔ Rt next (-1) b := by rw [getD_mk, reach_mk]
    rw [Bool.eq_iff_iff, Bool.and_eq_true, h1, hf]
    constructor
    · intro hm
      have hR := ((must_iff next a b).1 hm).2.1
      exact ⟨hR, (must_anc hD hA b a hR).1 hm⟩
    · rintro ⟨hR, ha⟩
      exact (must_anc hD hA b a hR).2 ha
  · omega
end Go.Proofs.Ytnlapancooecjaa

/- The walk of the statement FlowRow. Conditions: none beyond the row's reach. -/
namespace Go.Proofs.Ytnlapancooecjaa
open Go.RowKit Go.Proofs.YtnlapancooecjaaW.PrintWords
set_option linter.unusedVariables false
set_option linter.unusedSimpArgs false

set_option maxHeartbeats 4000000 in
set_option maxRecDepth 100000 in
theorem flowRow_any (w : World) (next : List (List Int)) (A : Option Addr) (c : Nat) (hc : next.length ≤ c) (hC : (Kd.slice 3 (Kd.int .i64)).C w A next.length next) (hsz : next.length * 24 ≤ 140737488351232)
    (hlen : ∀ b, (succs next b).length * 8 ≤ 140737488351232) (a b : Nat) (ha : a ≤ 255) (hb : b ≤ 255) : Calls Try.prog 7 #[.slice A next.length c, .int .u8 a, .int .u8 b] w (BoolPost w true) := by
  obtain ⟨s, k1, hs, hsm⟩ := small_any next 40 150 (by omega) (by omega) hlen hsz
  have HC := Lib.hid hC
  have HS := Aside0.mk hs
  have a0 : (0 : Int) ≤ a := by omega
  have a1 : (a : Int) ≤ 255 := by omega
  have b0 : (0 : Int) ≤ b := by omega
  have b1 : (b : Int) ≤ 255 := by omega
  by_cases hg : s = true ∧ a < next.length ∧ b < next.length
  · obtain ⟨rfl, ha', hb'⟩ := hg
    obtain ⟨h40, hM⟩ := hsm rfl
    have h40' : next.length ≤ 40 := by omega
    have hM' : ∀ b, (succs next b).length ≤ 400 := fun b => by have := hM b; omega
    obtain ⟨r, hr, hA⟩ := aboveF_ok next (by omega) (by omega)
    obtain ⟨hD, hO⟩ := statics next (by omega)
    have hrl := hA.1.tr.len
    have hol := orderF_len next
    have HA := Lib.hid hA
    have HD := Lib.hid hD
    have HR := Aside0.mk hr
    have HM := Lib.hid hM'
    have d1 : decide ((next.length : Int) ≤ a) = false := decide_eq_false (by omega)
    have d2 : decide ((next.length : Int) ≤ b) = false := decide_eq_false (by omega)
    have HRL := Lib.hid hrl
    have HBN := Lib.hid (show a < next.length ∧ b < next.length from ⟨ha', hb'⟩)
    have hmk : ∀ W : World, (Instr.makeSlice 28 (.int .i64 (next.length : Int)) (.int .i64 (next.length : Int))).run Try.prog W = .ok (.slice (some ⟨W.heap.size, 0, none⟩) next.length next.length) (W.alloc (.cells (madeCells #[.int .i64 0] next.length) 3)) := by
      intro W
      exact run_make_row' 28 3 (.int .i64 0) 8 Try.underlying28 int_info rfl .i64 .i64 next.length (by omega) (by omega) W
    have HMK := Lib.hid hmk
    clear hC hs hsm hlen hM hM' hr hA hD hO hrl h40 ha hb hmk
    go_enter Try.func7, Try.ntmps7
    go_wp2_with fail
    refine (awake_any w).mono ?_
    rintro e w1 ⟨rfl, hB1⟩
    have HB1 := Lib.hid hB1
    clear hB1
    go_wp2_with fail
    refine (PFlowMust.seedcornref26_Small.calls k1 A c next 40 150 true w1 (Kd.C_below HC.out HB1.out) hc HS.out).mono ?_
    rintro e w2 ⟨rfl, ⟨n2, hn2⟩⟩
    have HB2 := Lib.hid (show Below w.heap.size w w2 by rw [hn2]; exact pw_below_drewN HB1.out n2)
    clear hn2
    go_wp2_with fail
    refine (reach_any w2 next A c hc (Kd.C_below HC.out HB2.out) hsz).mono ?_
    rintro e w3 ⟨v1, rfl, hR1, hB3⟩
    obtain ⟨A1, c1, rfl, hcell1⟩ := bool_cell hR1
    rw [reachF_len] at hcell1 ⊢
    obtain ⟨ad1, rfl, hb1⟩ := hcell1 b HBN.out.2
    have HX3 := Lib.hid hb1
    have HB3 := Lib.hid (below_then HB2.out HB2.out.size hB3)
    clear hR1 hcell1 hb1 hB3
    go_wp2_with fail
    refine (above_any w3 next A c hc (Kd.C_below HC.out HB3.out) (by omega) HM.out 20000 r HR.out).mono ?_
    rintro e w4 ⟨v2, rfl, hR2, hB4⟩
    obtain ⟨A2, c2, rfl, hc2, hC2⟩ := Kd.R_reads hR2
    rw [HRL.out]
    have HX4 := Lib.hid (pw_cell_below hB4 HX3.out)
    have HC2 := Lib.hid hC2
    have HB4 := Lib.hid (below_then HB3.out HB3.out.size hB4)
    clear hR2 hC2 hB4 HX3 hc2
    go_wp2_with fail
    refine (order_any w4 next A c hc (Kd.C_below HC.out HB4.out) hsz).mono ?_
    rintro e w5 ⟨v3, rfl, hR3, hB5⟩
    obtain ⟨A3, c3, rfl, hc3, hC3⟩ := Kd.R_reads hR3
    have HX5 := Lib.hid (pw_cell_below hB5 HX4.out)
    have HC5 := Lib.hid (Kd.C_below HC2.out hB5)
    have HC3 := Lib.hid hC3
    have HB5 := Lib.hid (below_then HB4.out HB4.out.size hB5)
    clear hR3 hC3 hB5 HX4 HC2 hc3
    have hmk := HMK.out
    go_wp2_with fail
    clear hmk
    have HN0 := Lib.hid (show nb (w5.alloc (.cells (madeCells #[.int .i64 0] next.length) 3)) w5.heap.size (placeF next.length (orderF next) 0) from by
      have := heap_alloc_new w5 (.cells (madeCells #[.int .i64 0] next.length) 3)
      have e : placeF next.length (orderF next) 0 = List.replicate next.length 0 := by simp [placeF]
      rw [nb, e, ← made_nums]
      exact this)
    go_loopw [11] (fun vi ws => ∃ j : Nat, j ≤ (orderF next).length ∧ vi = .int .i64 j ∧ nb ws w5.heap.size (placeF next.length (orderF next) j) ∧ Below w5.heap.size w5 ws) (fun vi _ => (orderF next).length - (intOf vi).toNat)
    case atStart => exact ⟨0, Nat.zero_le _, rfl, HN0.out, (Below.refl _ _).alloc (Nat.le_refl _) _⟩
    case round =>
      obtain ⟨j, hj, rfl, hN, hBj⟩ := hrel
      by_cases hlt : j < (orderF next).length
      · obtain ⟨ad3, rfl, cj0⟩ := Kd.at_int HC3.out j (by omega) (by omega)
        have cj := pw_cell_below hBj cj0
        rw [Int.toNat_natCast] at cj
        have hrange := orderF_range next (rd (orderF next) j) (by simp [rd, List.getElem?_eq_getElem hlt])
        obtain ⟨v, hv⟩ := Int.eq_ofNat_of_zero_le hrange.1
        have hps := placeF_succ next.length (orderF next) j hlt
        rw [hv, Int.toNat_natCast] at hps
        rw [hv] at cj hrange
        have hpl := placeF_len next.length (orderF next) j
        have cv := nb_cell hN v (by rw [hpl]; omega)
        have fv := nb_free hN v
        have HN := Lib.hid (nb_set hN v (j : Int))
        rw [← hps] at HN
        have HBJ := Lib.hid (hBj.setCell (p := ⟨w5.heap.size, v, none⟩) (Nat.le_refl _) (.int .i64 j))
        have e1 : decide ((v : Int) < 0) = false := decide_eq_false (by omega)
        have e2 : decide ((next.length : Int) ≤ v) = false := decide_eq_false (by omega)
        have e3 : (0 : Int) ≤ v := by omega
        have e4 : (v : Int) < next.length := hrange.2
        have e5 : decide ((j : Int) < (orderF next).length) = true := decide_eq_true (by omega)
        have e6 : (0 : Int) ≤ j := by omega
        have e7 : (j : Int) < (orderF next).length := by omega
        clear hN hBj cj0 hrange hv hps hpl HN0 HA HD HC
        go_wp2_with fail
        go_roundw
        case rel => exact ⟨j + 1, by omega, by go_num, HN.out, HBJ.out⟩
        case measure => simp [intOf]; omega
      · have e5 : decide ((j : Int) < (orderF next).length) = false := decide_eq_false (by omega)
        have hjj : j = (orderF next).length := by omega
        subst hjj
        obtain ⟨pl, hpl⟩ : ∃ pl, pl = placeF next.length (orderF next) (orderF next).length := ⟨_, rfl⟩
        rw [← hpl] at hN HA HD
        have hpll : pl.length = next.length := by rw [hpl]; exact placeF_len _ _ _
        have HPL := Lib.hid hpll
        have HN := Lib.hid hN
        have HBJ := Lib.hid hBj
        have HS0 := Lib.hid (rowS_start next pl r a b hb')
        clear hN hBj hpl hpll HN0 hj hlt
        obtain ⟨wl, rfl⟩ : ∃ W : World, W = wr := ⟨_, rfl⟩
        go_wp2_with fail
        go_loopw [12, 13, 14] (fun vf va vi ws => ∃ (i : Nat) (at_ : Int) (found : Bool), i ≤ next.length + 1 ∧ vf = .bool found ∧ va = .int .i64 at_ ∧ vi = .int .i64 i ∧ RowS next pl r a b i at_ found ∧ Below wl.heap.size wl ws) (fun vf va vi _ => next.length + 1 - (intOf vi).toNat)
        case atStart => exact ⟨0, b, false, by omega, rfl, rfl, rfl, HS0.out, Below.refl _ _⟩
        case round =>
          obtain ⟨i, at_, found, hi, rfl, rfl, rfl, hS, hBi⟩ := hrel
          by_cases h0 : 0 ≤ at_
          · have hbd := rowS_bound HD.out hS h0
            obtain ⟨v, rfl⟩ := Int.eq_ofNat_of_zero_le h0
            obtain ⟨hvn, hup, hS'⟩ := rowS_step HD.out HA.out.1.tr hS
            obtain ⟨ad2, rfl, cv0⟩ := Kd.at_int HC5.out v (by omega) (by have := HRL.out; omega)
            rw [Int.toNat_natCast] at cv0
            have cv := pw_cell_below hBi (pw_cell_below HBJ.out cv0)
            have pv := pw_cell_below hBi (nb_cell HN.out v (by rw [HPL.out]; exact hvn))
            have g1 : (0 : Int) ≤ v := by omega
            have g2 : (v : Int) < next.length := by omega
            have g3 : decide ((i : Int) ≤ next.length) = true := decide_eq_true hbd
            have g4 : decide ((0 : Int) ≤ v) = true := decide_eq_true g1
            have g5 : decide ((next.length : Int) ≤ v) = false := decide_eq_false (by omega)
            have HSP := Lib.hid hS'
            have HBI := Lib.hid hBi
            have hil : i ≤ next.length := by omega
            obtain ⟨q, hq⟩ : ∃ q, ((v : Int) == (a : Int)) = q := ⟨_, rfl⟩
            rw [hq] at HSP
            rcases hup with hm | ⟨u, hu, hun, hul⟩
            · rw [hm] at HSP cv
              clear hS hBi hS' cv0 hm hbd HA HD HC
              cases found <;> cases q <;> (
                go_wp2_with fail
                go_quiet (fail)
                generalize hq_ : World.drewN wr _ = wq
                have HBQ := Lib.hid (show Below wl.heap.size wl wq by rw [← hq_]; exact pw_below_drewN HBI.out _)
                clear hq_ HBI cv pv
                go_wp2_with fail
                go_roundw
                case rel => exact ⟨i + 1, _, _, by omega, rfl, rfl, by go_num, HSP.out, HBQ.out⟩
                case measure => simp [intOf]; omega)
            · rw [hu] at HSP cv
              have pu := pw_cell_below hBi (nb_cell HN.out u (by rw [HPL.out]; exact hun))
              have g6 : (0 : Int) ≤ u := by omega
              have g7 : (u : Int) < next.length := by omega
              have g8 : decide ((0 : Int) ≤ u) = true := decide_eq_true g6
              have g9 : decide ((next.length : Int) ≤ u) = false := decide_eq_false (by omega)
              have g10 : decide (rd pl (v : Int) ≤ rd pl (u : Int)) = false := decide_eq_false (by omega)
              clear hS hBi hS' cv0 hu hul hbd HA HD HC
              cases found <;> cases q <;> (
                go_wp2_with fail
                go_quiet (fail)
                generalize hq_ : World.drewN wr _ = wq
                have HBQ := Lib.hid (show Below wl.heap.size wl wq by rw [← hq_]; exact pw_below_drewN HBI.out _)
                clear hq_ HBI cv pv pu
                go_wp2_with fail
                go_roundw
                case rel => exact ⟨i + 1, _, _, by omega, rfl, rfl, by go_num, HSP.out, HBQ.out⟩
                case measure => simp [intOf]; omega)
          · have hE := rowS_end HD.out HA.out hS (by omega)
            have hat : at_ = -1 := by
              rcases hS with ⟨h, _⟩ | ⟨v, h, _⟩
              · exact h
              · omega
            subst hat
            obtain ⟨x, hx⟩ : ∃ x, x = (reachF next).getD b false := ⟨_, rfl⟩
            rw [← hx] at hE HX5
            have hBw : Below w.heap.size w wr := below_then (below_then HB5.out HB5.out.size HBJ.out) (below_then HB5.out HB5.out.size HBJ.out).size hBi
            have hb1' := pw_cell_below hBi (pw_cell_below HBJ.out HX5.out)
            obtain ⟨m, hm⟩ : ∃ m, mustF next a b = m := ⟨_, rfl⟩
            have HMu := Lib.hid (show ∀ W, W.cell? (ad1.add b) = some (.bool x) → Below w.heap.size w W → Calls Try.prog 19 #[.slice A next.length c, .int .i64 a, .int .i64 b] W (fun e w' => e = .returned (.bool m) ∧ w'.cell? (ad1.add b) = some (.bool x) ∧ Below w.heap.size w w') from by
              intro W q1 q3
              refine (must_any W next A c hc (Kd.C_below HC.out q3) hsz a b).mono ?_
              rw [hm]
              rintro e w7 ⟨rfl, hB7⟩
              exact ⟨rfl, pw_cell_below hB7 q1, below_then q3 q3.size hB7⟩)
            rw [hm] at hE
            have HBW := Lib.hid hBw
            clear hS hBi hBw hm hx h0 HA HD HC HN HBJ HX5 HC5 HC3 HS0
            obtain ⟨q3, g3, hile⟩ : ∃ q3, decide ((i : Int) ≤ next.length) = q3 ∧ ((q3 = true ∧ i ≤ next.length) ∨ (q3 = false ∧ ¬ i ≤ next.length)) := by
              by_cases h : i ≤ next.length
              · exact ⟨true, decide_eq_true (by omega), .inl ⟨rfl, h⟩⟩
              · exact ⟨false, decide_eq_false (by omega), .inr ⟨rfl, h⟩⟩
            rcases hile with ⟨rfl, hile⟩ | ⟨rfl, hile⟩
            all_goals
             cases x with
             | true =>
               cases found <;> simp only [Bool.and_true, Bool.and_false, Bool.false_and, Bool.true_and] at hE <;> subst hE
               all_goals
                 go_wp2_with fail
                 have hB6 := HBW.out
                 have ea : IntKind.i64.wrap (a : Int) = a := IntWalk.i64_in _ (by omega)
                 have eb : IntKind.i64.wrap (b : Int) = b := IntWalk.i64_in _ (by omega)
                 refine wp_region_held_drew (S := fun W => W.cell? (ad1.add b) = some (.bool true) ∧ Below w.heap.size w W) (by kernel_rfl) ⟨by first | assumption | simp [*], hB6.drew⟩ (fun hSd => ?_)
                 refine wpAnyH_take (i := 0) (v := ?_) rfl (by kernel_rfl) (by kernel_rfl) (by kernel_rfl) (fun _ _ _ h => h) (Or.inl ⟨by rfl, ?_⟩) (by assumption) ?_
                 rotate_left
                 · (intro w hSw; (try dsimp only at hSw); go_simp; try with_reducible rfl)
                 (try simp only [List.getElem_toArray, List.getElem_cons_succ, List.getElem_cons_zero, Act.put, List.setIfInBounds_toArray, List.set_cons_zero, List.set_cons_succ])
                 refine wpAnyH_take (i := 1) (v := ?_) rfl (by kernel_rfl) (by kernel_rfl) (by kernel_rfl) (fun _ _ _ h => h) (Or.inl ⟨by rfl, ?_⟩) (by assumption) ?_
                 rotate_left
                 · (intro w hSw; (try dsimp only at hSw); go_simp; try with_reducible rfl)
                 (try simp only [List.getElem_toArray, List.getElem_cons_succ, List.getElem_cons_zero, Act.put, List.setIfInBounds_toArray, List.set_cons_zero, List.set_cons_succ])
                 refine wpAnyH_take (i := 2) (v := ?_) rfl (by kernel_rfl) (by kernel_rfl) (by kernel_rfl) (fun _ _ _ h => h) (Or.inl ⟨by rfl, ?_⟩) (by assumption) ?_
                 rotate_left
                 · (intro w hSw; (try dsimp only at hSw); go_simp; try with_reducible rfl)
                 (try simp only [List.getElem_toArray, List.getElem_cons_succ, List.getElem_cons_zero, Act.put, List.setIfInBounds_toArray, List.set_cons_zero, List.set_cons_succ])
                 refine wpAnyH_take (i := 3) (v := ?_) rfl (by kernel_rfl) (by kernel_rfl) (by kernel_rfl) (fun _ _ _ h => h) (Or.inl ⟨by rfl, ?_⟩) (by assumption) ?_
                 rotate_left
                 · (intro w hSw; (try dsimp only at hSw); go_simp; try with_reducible rfl)
                 (try simp only [List.getElem_toArray, List.getElem_cons_succ, List.getElem_cons_zero, Act.put, List.setIfInBounds_toArray, List.set_cons_zero, List.set_cons_succ])
                 refine wpAnyH_take (i := 4) (v := ?_) rfl (by kernel_rfl) (by kernel_rfl) (by kernel_rfl) (fun _ _ _ h => h) (Or.inl ⟨by rfl, ?_⟩) (by assumption) ?_
                 rotate_left
                 · (intro w hSw; (try dsimp only at hSw); go_simp; try with_reducible rfl)
                 (try simp only [List.getElem_toArray, List.getElem_cons_succ, List.getElem_cons_zero, Act.put, List.setIfInBounds_toArray, List.set_cons_zero, List.set_cons_succ])
                 refine wpAnyH_take (i := 5) (v := ?_) rfl (by kernel_rfl) (by kernel_rfl) (by kernel_rfl) (fun _ _ _ h => h) (Or.inl ⟨by rfl, ?_⟩) (by assumption) ?_
                 rotate_left
                 · (intro w hSw; (try dsimp only at hSw); go_simp; try with_reducible rfl)
                 (try simp only [List.getElem_toArray, List.getElem_cons_succ, List.getElem_cons_zero, Act.put, List.setIfInBounds_toArray, List.set_cons_zero, List.set_cons_succ])
                 refine wpAnyH_take (i := 6) (v := ?_) rfl (by kernel_rfl) (by kernel_rfl) (by kernel_rfl) (fun _ _ _ h => h) (Or.inl ⟨by rfl, ?_⟩) (by assumption) ?_
                 rotate_left
                 · (intro w hSw; (try dsimp only at hSw); go_simp; try with_reducible rfl)
                 (try simp only [List.getElem_toArray, List.getElem_cons_succ, List.getElem_cons_zero, Act.put, List.setIfInBounds_toArray, List.set_cons_zero, List.set_cons_succ])
                 refine wpAnyH_take (i := 7) (v := ?_) rfl (by kernel_rfl) (by kernel_rfl) (by kernel_rfl) (fun _ _ _ h => h) (Or.inl ⟨by rfl, ?_⟩) (by assumption) ?_
                 rotate_left
                 · (intro w hSw; (try dsimp only at hSw); go_simp; try with_reducible rfl)
                 (try simp only [List.getElem_toArray, List.getElem_cons_succ, List.getElem_cons_zero, Act.put, List.setIfInBounds_toArray, List.set_cons_zero, List.set_cons_succ])
                 refine wpAnyH_take (i := 9) (v := ?_) rfl (by kernel_rfl) (by kernel_rfl) (by kernel_rfl) (fun _ _ _ h => h) (Or.inl ⟨by rfl, ?_⟩) (by assumption) ?_
                 rotate_left
                 · (intro w hSw; (try dsimp only at hSw); go_simp; try with_reducible rfl)
                 (try simp only [List.getElem_toArray, List.getElem_cons_succ, List.getElem_cons_zero, Act.put, List.setIfInBounds_toArray, List.set_cons_zero, List.set_cons_succ])
                 refine wpAnyH_take (i := 10) (v := ?_) rfl (by kernel_rfl) (by kernel_rfl) (by kernel_rfl) (fun _ _ _ h => h) (Or.inl ⟨by rfl, ?_⟩) (by assumption) ?_
                 rotate_left
                 · (intro w hSw; (try dsimp only at hSw); go_simp; try with_reducible rfl)
                 (try simp only [List.getElem_toArray, List.getElem_cons_succ, List.getElem_cons_zero, Act.put, List.setIfInBounds_toArray, List.set_cons_zero, List.set_cons_succ])
                 refine wpAnyH_take (i := 11) (v := ?_) rfl (by kernel_rfl) (by kernel_rfl) (by kernel_rfl) (fun _ _ _ h => h) (Or.inl ⟨by rfl, ?_⟩) (by assumption) ?_
                 rotate_left
                 · (intro w hSw; (try dsimp only at hSw); go_simp; try with_reducible rfl)
                 (try simp only [List.getElem_toArray, List.getElem_cons_succ, List.getElem_cons_zero, Act.put, List.setIfInBounds_toArray, List.set_cons_zero, List.set_cons_succ])
                 refine wpAnyH_take (i := 12) (v := ?_) rfl (by kernel_rfl) (by kernel_rfl) (by kernel_rfl) (fun _ _ _ h => h) (Or.inl ⟨by rfl, ?_⟩) (by assumption) ?_
                 rotate_left
                 · (intro w hSw; (try dsimp only at hSw); go_simp; try with_reducible rfl)
                 (try simp only [List.getElem_toArray, List.getElem_cons_succ, List.getElem_cons_zero, Act.put, List.setIfInBounds_toArray, List.set_cons_zero, List.set_cons_succ])
                 refine wpAnyH_ready (rs := [8]) (by kernel_rfl) (by simp) ?_
                 refine AllReadyH.cons rfl (fun K hK => ?_) AllReadyH.nil
                 go_simp
                 go_wp2_with (go_at_call 19; refine (HMu.out _ ?_ ?_).mono ?_; (first | assumption | simp [*]); (first | assumption | exact hB6.drew); rintro e w7 ⟨rfl, hb71, hB7⟩)
                 refine hK.out _ _ ⟨hb71, hB7⟩ (fun hSe => ?_)
                 clear hK K
                 (try simp only [List.getElem_toArray, List.getElem_cons_succ, List.getElem_cons_zero, Act.put, List.setIfInBounds_toArray, List.set_cons_zero, List.set_cons_succ])
                 refine wpAnyH_take (i := 13) (v := ?_) rfl (by kernel_rfl) (by kernel_rfl) (by kernel_rfl) (fun _ _ _ h => h) (Or.inl ⟨by rfl, ?_⟩) (by assumption) ?_
                 rotate_left
                 · (intro w hSw; (try dsimp only at hSw); go_simp; try with_reducible rfl)
                 (try simp only [List.getElem_toArray, List.getElem_cons_succ, List.getElem_cons_zero, Act.put, List.setIfInBounds_toArray, List.set_cons_zero, List.set_cons_succ])
                 refine wpAnyH_take (i := 14) (v := ?_) rfl (by kernel_rfl) (by kernel_rfl) (by kernel_rfl) (fun _ _ _ h => h) (Or.inl ⟨by rfl, ?_⟩) (by assumption) ?_
                 rotate_left
                 · (intro w hSw; (try dsimp only at hSw); go_simp; try with_reducible rfl)
                 (try simp only [List.getElem_toArray, List.getElem_cons_succ, List.getElem_cons_zero, Act.put, List.setIfInBounds_toArray, List.set_cons_zero, List.set_cons_succ])
                 refine wpAnyH_take (i := 15) (v := ?_) rfl (by kernel_rfl) (by kernel_rfl) (by kernel_rfl) (fun _ _ _ h => h) (Or.inl ⟨by rfl, ?_⟩) (by assumption) ?_
                 rotate_left
                 · (intro w hSw; (try dsimp only at hSw); go_simp; try with_reducible rfl)
                 (try simp only [List.getElem_toArray, List.getElem_cons_succ, List.getElem_cons_zero, Act.put, List.setIfInBounds_toArray, List.set_cons_zero, List.set_cons_succ])
                 refine wpAnyH_take (i := 16) (v := ?_) rfl (by kernel_rfl) (by kernel_rfl) (by kernel_rfl) (fun _ _ _ h => h) (Or.inl ⟨by rfl, ?_⟩) (by assumption) ?_
                 rotate_left
                 · (intro w hSw; (try dsimp only at hSw); go_simp; try with_reducible rfl)
                 (try simp only [List.getElem_toArray, List.getElem_cons_succ, List.getElem_cons_zero, Act.put, List.setIfInBounds_toArray, List.set_cons_zero, List.set_cons_succ])
                 refine wpAnyH_take (i := 17) (v := ?_) rfl (by kernel_rfl) (by kernel_rfl) (by kernel_rfl) (fun _ _ _ h => h) (Or.inl ⟨by rfl, ?_⟩) (by assumption) ?_
                 rotate_left
                 · (intro w hSw; (try dsimp only at hSw); go_simp; try with_reducible rfl)
                 (try simp only [List.getElem_toArray, List.getElem_cons_succ, List.getElem_cons_zero, Act.put, List.setIfInBounds_toArray, List.set_cons_zero, List.set_cons_succ])
                 refine wpAnyH_take (i := 18) (v := ?_) rfl (by kernel_rfl) (by kernel_rfl) (by kernel_rfl) (fun _ _ _ h => h) (Or.inl ⟨by rfl, ?_⟩) (by assumption) ?_
                 rotate_left
                 · (intro w hSw; (try dsimp only at hSw); go_simp; try with_reducible rfl)
                 (try simp only [List.getElem_toArray, List.getElem_cons_succ, List.getElem_cons_zero, Act.put, List.setIfInBounds_toArray, List.set_cons_zero, List.set_cons_succ])
                 refine wpAnyH_done (by kernel_rfl) ?_ _
                 (go_wp2_with fail; go_ret; exact ⟨rfl, by first | exact hB7 | assumption⟩)
             | false =>
               cases found <;> simp only [Bool.and_true, Bool.and_false, Bool.false_and, Bool.true_and] at hE <;> subst hE
               all_goals
                 go_wp2_with fail
                 have hB6 := HBW.out
                 have ea : IntKind.i64.wrap (a : Int) = a := IntWalk.i64_in _ (by omega)
                 have eb : IntKind.i64.wrap (b : Int) = b := IntWalk.i64_in _ (by omega)
                 refine wp_region_held_drew (S := fun W => W.cell? (ad1.add b) = some (.bool false) ∧ Below w.heap.size w W) (by kernel_rfl) ⟨by first | assumption | simp [*], hB6.drew⟩ (fun hSd => ?_)
                 refine wpAnyH_take (i := 0) (v := ?_) rfl (by kernel_rfl) (by kernel_rfl) (by kernel_rfl) (fun _ _ _ h => h) (Or.inl ⟨by rfl, ?_⟩) (by assumption) ?_
                 rotate_left
                 · (intro w hSw; (try dsimp only at hSw); go_simp; try with_reducible rfl)
                 (try simp only [List.getElem_toArray, List.getElem_cons_succ, List.getElem_cons_zero, Act.put, List.setIfInBounds_toArray, List.set_cons_zero, List.set_cons_succ])
                 refine wpAnyH_take (i := 1) (v := ?_) rfl (by kernel_rfl) (by kernel_rfl) (by kernel_rfl) (fun _ _ _ h => h) (Or.inl ⟨by rfl, ?_⟩) (by assumption) ?_
                 rotate_left
                 · (intro w hSw; (try dsimp only at hSw); go_simp; try with_reducible rfl)
                 (try simp only [List.getElem_toArray, List.getElem_cons_succ, List.getElem_cons_zero, Act.put, List.setIfInBounds_toArray, List.set_cons_zero, List.set_cons_succ])
                 refine wpAnyH_take (i := 2) (v := ?_) rfl (by kernel_rfl) (by kernel_rfl) (by kernel_rfl) (fun _ _ _ h => h) (Or.inl ⟨by rfl, ?_⟩) (by assumption) ?_
                 rotate_left
                 · (intro w hSw; (try dsimp only at hSw); go_simp; try with_reducible rfl)
                 (try simp only [List.getElem_toArray, List.getElem_cons_succ, List.getElem_cons_zero, Act.put, List.setIfInBounds_toArray, List.set_cons_zero, List.set_cons_succ])
                 refine wpAnyH_take (i := 3) (v := ?_) rfl (by kernel_rfl) (by kernel_rfl) (by kernel_rfl) (fun _ _ _ h => h) (Or.inl ⟨by rfl, ?_⟩) (by assumption) ?_
                 rotate_left
                 · (intro w hSw; (try dsimp only at hSw); go_simp; try with_reducible rfl)
                 (try simp only [List.getElem_toArray, List.getElem_cons_succ, List.getElem_cons_zero, Act.put, List.setIfInBounds_toArray, List.set_cons_zero, List.set_cons_succ])
                 refine wpAnyH_take (i := 4) (v := ?_) rfl (by kernel_rfl) (by kernel_rfl) (by kernel_rfl) (fun _ _ _ h => h) (Or.inl ⟨by rfl, ?_⟩) (by assumption) ?_
                 rotate_left
                 · (intro w hSw; (try dsimp only at hSw); go_simp; try with_reducible rfl)
                 (try simp only [List.getElem_toArray, List.getElem_cons_succ, List.getElem_cons_zero, Act.put, List.setIfInBounds_toArray, List.set_cons_zero, List.set_cons_succ])
                 refine wpAnyH_take (i := 5) (v := ?_) rfl (by kernel_rfl) (by kernel_rfl) (by kernel_rfl) (fun _ _ _ h => h) (Or.inl ⟨by rfl, ?_⟩) (by assumption) ?_
                 rotate_left
                 · (intro w hSw; (try dsimp only at hSw); go_simp; try with_reducible rfl)
                 (try simp only [List.getElem_toArray, List.getElem_cons_succ, List.getElem_cons_zero, Act.put, List.setIfInBounds_toArray, List.set_cons_zero, List.set_cons_succ])
                 refine wpAnyH_take (i := 6) (v := ?_) rfl (by kernel_rfl) (by kernel_rfl) (by kernel_rfl) (fun _ _ _ h => h) (Or.inl ⟨by rfl, ?_⟩) (by assumption) ?_
                 rotate_left
                 · (intro w hSw; (try dsimp only at hSw); go_simp; try with_reducible rfl)
                 (try simp only [List.getElem_toArray, List.getElem_cons_succ, List.getElem_cons_zero, Act.put, List.setIfInBounds_toArray, List.set_cons_zero, List.set_cons_succ])
                 refine wpAnyH_take (i := 7) (v := ?_) rfl (by kernel_rfl) (by kernel_rfl) (by kernel_rfl) (fun _ _ _ h => h) (Or.inl ⟨by rfl, ?_⟩) (by assumption) ?_
                 rotate_left
                 · (intro w hSw; (try dsimp only at hSw); go_simp; try with_reducible rfl)
                 (try simp only [List.getElem_toArray, List.getElem_cons_succ, List.getElem_cons_zero, Act.put, List.setIfInBounds_toArray, List.set_cons_zero, List.set_cons_succ])
                 refine wpAnyH_take (i := 9) (v := ?_) rfl (by kernel_rfl) (by kernel_rfl) (by kernel_rfl) (fun _ _ _ h => h) (Or.inl ⟨by rfl, ?_⟩) (by assumption) ?_
                 rotate_left
                 · (intro w hSw; (try dsimp only at hSw); go_simp; try with_reducible rfl)
                 (try simp only [List.getElem_toArray, List.getElem_cons_succ, List.getElem_cons_zero, Act.put, List.setIfInBounds_toArray, List.set_cons_zero, List.set_cons_succ])
                 refine wpAnyH_take (i := 10) (v := ?_) rfl (by kernel_rfl) (by kernel_rfl) (by kernel_rfl) (fun _ _ _ h => h) (Or.inl ⟨by rfl, ?_⟩) (by assumption) ?_
                 rotate_left
                 · (intro w hSw; (try dsimp only at hSw); go_simp; try with_reducible rfl)
                 (try simp only [List.getElem_toArray, List.getElem_cons_succ, List.getElem_cons_zero, Act.put, List.setIfInBounds_toArray, List.set_cons_zero, List.set_cons_succ])
                 refine wpAnyH_take (i := 11) (v := ?_) rfl (by kernel_rfl) (by kernel_rfl) (by kernel_rfl) (fun _ _ _ h => h) (Or.inl ⟨by rfl, ?_⟩) (by assumption) ?_
                 rotate_left
                 · (intro w hSw; (try dsimp only at hSw); go_simp; try with_reducible rfl)
                 (try simp only [List.getElem_toArray, List.getElem_cons_succ, List.getElem_cons_zero, Act.put, List.setIfInBounds_toArray, List.set_cons_zero, List.set_cons_succ])
                 refine wpAnyH_take (i := 12) (v := ?_) rfl (by kernel_rfl) (by kernel_rfl) (by kernel_rfl) (fun _ _ _ h => h) (Or.inl ⟨by rfl, ?_⟩) (by assumption) ?_
                 rotate_left
                 · (intro w hSw; (try dsimp only at hSw); go_simp; try with_reducible rfl)
                 (try simp only [List.getElem_toArray, List.getElem_cons_succ, List.getElem_cons_zero, Act.put, List.setIfInBounds_toArray, List.set_cons_zero, List.set_cons_succ])
                 refine wpAnyH_ready (rs := [8]) (by kernel_rfl) (by simp) ?_
                 refine AllReadyH.cons rfl (fun K hK => ?_) AllReadyH.nil
                 go_simp
                 go_wp2_with (go_at_call 19; refine (HMu.out _ ?_ ?_).mono ?_; (first | assumption | simp [*]); (first | assumption | exact hB6.drew); rintro e w7 ⟨rfl, hb71, hB7⟩)
                 refine hK.out _ _ ⟨hb71, hB7⟩ (fun hSe => ?_)
                 clear hK K
                 (try simp only [List.getElem_toArray, List.getElem_cons_succ, List.getElem_cons_zero, Act.put, List.setIfInBounds_toArray, List.set_cons_zero, List.set_cons_succ])
                 refine wpAnyH_take (i := 13) (v := ?_) rfl (by kernel_rfl) (by kernel_rfl) (by kernel_rfl) (fun _ _ _ h => h) (Or.inl ⟨by rfl, ?_⟩) (by assumption) ?_
                 rotate_left
                 · (intro w hSw; (try dsimp only at hSw); go_simp; try with_reducible rfl)
                 (try simp only [List.getElem_toArray, List.getElem_cons_succ, List.getElem_cons_zero, Act.put, List.setIfInBounds_toArray, List.set_cons_zero, List.set_cons_succ])
                 refine wpAnyH_take (i := 14) (v := undef) rfl (by kernel_rfl) (by kernel_rfl) (by kernel_rfl) (fun _ _ _ h => h) (Or.inr ⟨by rfl, rfl⟩) (by assumption) ?_
                 (try simp only [List.getElem_toArray, List.getElem_cons_succ, List.getElem_cons_zero, Act.put, List.setIfInBounds_toArray, List.set_cons_zero, List.set_cons_succ])
                 refine wpAnyH_take (i := 15) (v := ?_) rfl (by kernel_rfl) (by kernel_rfl) (by kernel_rfl) (fun _ _ _ h => h) (Or.inl ⟨by rfl, ?_⟩) (by assumption) ?_
                 rotate_left
                 · (intro w hSw; (try dsimp only at hSw); go_simp; try with_reducible rfl)
                 (try simp only [List.getElem_toArray, List.getElem_cons_succ, List.getElem_cons_zero, Act.put, List.setIfInBounds_toArray, List.set_cons_zero, List.set_cons_succ])
                 refine wpAnyH_take (i := 16) (v := ?_) rfl (by kernel_rfl) (by kernel_rfl) (by kernel_rfl) (fun _ _ _ h => h) (Or.inl ⟨by rfl, ?_⟩) (by assumption) ?_
                 rotate_left
                 · (intro w hSw; (try dsimp only at hSw); go_simp; try with_reducible rfl)
                 (try simp only [List.getElem_toArray, List.getElem_cons_succ, List.getElem_cons_zero, Act.put, List.setIfInBounds_toArray, List.set_cons_zero, List.set_cons_succ])
                 refine wpAnyH_take (i := 17) (v := ?_) rfl (by kernel_rfl) (by kernel_rfl) (by kernel_rfl) (fun _ _ _ h => h) (Or.inl ⟨by rfl, ?_⟩) (by assumption) ?_
                 rotate_left
                 · (intro w hSw; (try dsimp only at hSw); go_simp; try with_reducible rfl)
                 (try simp only [List.getElem_toArray, List.getElem_cons_succ, List.getElem_cons_zero, Act.put, List.setIfInBounds_toArray, List.set_cons_zero, List.set_cons_succ])
                 refine wpAnyH_take (i := 18) (v := ?_) rfl (by kernel_rfl) (by kernel_rfl) (by kernel_rfl) (fun _ _ _ h => h) (Or.inl ⟨by rfl, ?_⟩) (by assumption) ?_
                 rotate_left
                 · (intro w hSw; (try dsimp only at hSw); go_simp; try with_reducible rfl)
                 (try simp only [List.getElem_toArray, List.getElem_cons_succ, List.getElem_cons_zero, Act.put, List.setIfInBounds_toArray, List.set_cons_zero, List.set_cons_succ])
                 refine wpAnyH_done (by kernel_rfl) ?_ _
                 (go_wp2_with fail; go_ret; exact ⟨rfl, by first | exact hB7 | assumption⟩)
  · have hg' : s = false ∨ (s = true ∧ (next.length : Int) ≤ a) ∨ (s = true ∧ (a : Int) < next.length ∧ (next.length : Int) ≤ b) := by
      cases s
      · exact .inl rfl
      · right
        by_cases h : a < next.length
        · exact .inr ⟨rfl, by omega, by have : ¬ b < next.length := fun h' => hg ⟨rfl, h, h'⟩; omega⟩
        · exact .inl ⟨rfl, by omega⟩
    clear hC hs hsm hlen hg ha hb
    go_enter Try.func7, Try.ntmps7
    go_wp2_with fail
    refine (awake_any w).mono ?_
    rintro e w1 ⟨rfl, hB1⟩
    have HB1 := Lib.hid hB1
    clear hB1
    go_wp2_with fail
    refine (PFlowMust.seedcornref26_Small.calls k1 A c next 40 150 s w1 (Kd.C_below HC.out HB1.out) hc HS.out).mono ?_
    rintro e w2 ⟨rfl, ⟨n2, hn2⟩⟩
    have HB2 := Lib.hid (show Below w.heap.size w w2 by rw [hn2]; exact pw_below_drewN HB1.out n2)
    clear hn2
    rcases hg' with rfl | ⟨rfl, h1⟩ | ⟨rfl, h1, h2⟩
    · go_wp2_with fail
      go_ret
      exact ⟨rfl, HB2.out⟩
    · have d1 : decide ((next.length : Int) ≤ a) = true := decide_eq_true h1
      go_wp2_with fail
      go_ret
      exact ⟨rfl, HB2.out⟩
    · have d1 : decide ((next.length : Int) ≤ a) = false := decide_eq_false (by omega)
      have d2 : decide ((next.length : Int) ≤ b) = true := decide_eq_true h2
      go_wp2_with fail
      go_ret
      exact ⟨rfl, HB2.out⟩

theorem flowRow_row (W : World) {a0 : Option Addr} {len0 cap0 : Nat} (next : List (List Int)) (hK : (Kd.slice 28 (Kd.slice 3 (Kd.int .i64))).K W next (Value.slice a0 len0 cap0).cells.toList)
    (ok : next.length * 24 ≤ reachBytes ∧ ∀ x ∈ next, x.length * 8 ≤ reachBytes ∧ ∀ y ∈ x, (Lit.int .i64 y).wf = true) (x : Int) (hx : (Lit.int .u8 x).wf = true) (y : Int) (hy : (Lit.int .u8 y).wf = true) :
    Calls Try.prog 7 #[.slice a0 len0 cap0, .int .u8 x, .int .u8 y] W (BoolPost W true) := by
  obtain ⟨rfl, hc, hC, hsz, hlen⟩ := graph_in hK ok
  obtain ⟨x0, x1⟩ := u8_bounds hx
  obtain ⟨y0, y1⟩ := u8_bounds hy
  obtain ⟨x, rfl⟩ := Int.eq_ofNat_of_zero_le x0
  obtain ⟨y, rfl⟩ := Int.eq_ofNat_of_zero_le y0
  exact flowRow_any W next a0 cap0 hc hC hsz hlen x y (by omega) (by omega)
end Go.Proofs.Ytnlapancooecjaa

