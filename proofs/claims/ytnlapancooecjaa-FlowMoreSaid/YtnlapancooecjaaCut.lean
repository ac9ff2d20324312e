/- The walk of the statement FlowCut. Conditions: none beyond the row's reach. -/
import Derived.Test.YtnlapancooecjaaFrw
namespace Go.Proofs.Ytnlapancooecjaa
open Go.RowKit Go.Proofs.YtnlapancooecjaaW.PrintWords
set_option linter.unusedVariables false
set_option linter.unusedSimpArgs false

/-! ### Heads of rows, laid anew -/
structure Heads (w : World) (vs : List Value) (xs : List (List Int)) : Prop where
  len : vs.length = xs.length
  at_ : ∀ (j : Nat) (x : List Int), xs[j]? = some x → ∃ A0 c0, vs[j]? = some (.slice A0 x.length c0) ∧ x.length ≤ c0 ∧ (Kd.int .i64).C w A0 x.length x
theorem heads_of {w : World} {next : List (List Int)} {A : Option Addr} (hC : (Kd.slice 3 (Kd.int .i64)).C w A next.length next) : ∃ vs, Heads w vs next ∧ ∀ j v, vs[j]? = some v → ∃ ad, A = some ad ∧ w.cell? (ad.add j) = some v := by
  have h : ∀ j, j < next.length → ∃ v, ∃ A0 c0, v = Value.slice A0 (succs next j).length c0 ∧ (∃ ad, A = some ad ∧ w.cell? (ad.add j) = some v) ∧ (succs next j).length ≤ c0 ∧ (Kd.int .i64).C w A0 (succs next j).length (succs next j) := by
    intro j hj
    obtain ⟨ad, A0, c0, hA, hc, hl, hC'⟩ := cell_nx hC j hj
    exact ⟨_, A0, c0, rfl, ⟨ad, hA, hc⟩, hl, hC'⟩
  obtain ⟨vs, hl, hp⟩ := list_of_lt (n := next.length) (p := fun j v => ∃ A0 c0, v = Value.slice A0 (succs next j).length c0 ∧ (∃ ad, A = some ad ∧ w.cell? (ad.add j) = some v) ∧ (succs next j).length ≤ c0 ∧ (Kd.int .i64).C w A0 (succs next j).length (succs next j)) h
  refine ⟨vs, ⟨hl, ?_⟩, ?_⟩
  · intro j x hx
    have hj := (List.getElem?_eq_some_iff.1 hx).1
    obtain ⟨A0, c0, e, _, h1, h2⟩ := hp j vs[j] (List.getElem?_eq_getElem (by omega))
    have e' : succs next j = x := by simp [succs, rd, rdOf, hx]
    rw [e'] at e h1 h2
    exact ⟨A0, c0, by rw [List.getElem?_eq_getElem (by omega), e], h1, h2⟩
  · intro j v hv
    obtain ⟨_, _, _, h0, _⟩ := hp j v hv
    exact h0
theorem Heads.below {w w' : World} {vs : List Value} {xs : List (List Int)} (h : Heads w vs xs) (hB : Below w.heap.size w w') : Heads w' vs xs :=
  ⟨h.len, fun j x hx => by obtain ⟨A0, c0, h0, h1, h2⟩ := h.at_ j x hx; exact ⟨A0, c0, h0, h1, Kd.C_below h2 hB⟩⟩
theorem Heads.set {w : World} {vs : List Value} {xs : List (List Int)} (h : Heads w vs xs) (a : Nat) (x : List Int) (A0 : Option Addr) (c0 : Nat) (hc : x.length ≤ c0) (hC : (Kd.int .i64).C w A0 x.length x) : Heads w (vs.set a (.slice A0 x.length c0)) (xs.set a x) := by
  refine ⟨by simp [h.len], ?_⟩
  intro j y hy
  have hj := (List.getElem?_eq_some_iff.1 hy).1
  have hl := h.len
  simp only [List.length_set] at hj
  by_cases e : a = j
  · subst e
    rw [List.getElem?_set_self (by omega)] at hy
    injection hy with hy
    subst hy
    exact ⟨A0, c0, by rw [List.getElem?_set_self (by omega)], hc, hC⟩
  · rw [List.getElem?_set_ne e] at hy
    obtain ⟨A1, c1, h0, h1, h2⟩ := h.at_ j y hy
    exact ⟨A1, c1, by rw [List.getElem?_set_ne e]; exact h0, h1, h2⟩
theorem Heads.C {w : World} {g : Nat} {vs : List Value} {xs : List (List Int)} (h : Heads w vs xs) (hc : ∀ j v, vs[j]? = some v → w.cell? ⟨g, j, none⟩ = some v) (hm : xs.length ≤ 9223372036854775807) : (Kd.slice 3 (Kd.int .i64)).C w (some ⟨g, 0, none⟩) xs.length xs := by
  refine ⟨rfl, hm, fun _ => ⟨_, rfl, ?_⟩⟩
  intro j p hj
  obtain ⟨A0, c0, h0, h1, h2⟩ := h.at_ j p hj
  refine ⟨[.slice A0 p.length c0], rfl, ⟨_, _, rfl, h1, h2⟩, ?_⟩
  intro i u hi
  match i, hi with
  | 0, hi =>
    simp at hi
    subst hi
    rw [add_plain, show j * (Kd.slice 3 (Kd.int IntKind.i64)).sz + 0 = j from by show j * 1 + 0 = j; omega]
    exact hc j _ h0
theorem nil_ints (w : World) : (Kd.int .i64).C w none ([] : List Int).length [] := ⟨rfl, by decide, fun h => absurd h (by decide)⟩

theorem getD_mk (s : List Bool) (v : Nat) : s.getD v false = true ↔ mk s v := by
  show s.getD v false = true ↔ s[v]? = some true
  rw [List.getD_eq_getElem?_getD]
  rcases s[v]? with _ | b
  · simp
  · cases b <;> simp
theorem succs_set (next : List (List Int)) (a : Nat) (x : List Int) (ha : a < next.length) (u : Nat) : succs (next.set a x) u = if u = a then x else succs next u := by
  unfold succs
  simp only [Int.toNat_natCast, List.getD_eq_getElem?_getD]
  split
  · next h => subst h; rw [List.getElem?_set_self ha]; rfl
  · next h => rw [List.getElem?_set_ne (by omega)]
theorem own_cap {w : World} {base : Nat} {e : TypeId} {size g n cap : Nat} {xs : List Value} (h : w.ownsRow base e size (.slice (some ⟨g, 0, none⟩) n cap) n xs) : n ≤ cap := by
  rcases h.2 with ⟨h', _⟩ | ⟨g', cap', cur, h', _, _, hc, _⟩
  · cases h'
  · cases h'
    exact hc
theorem cut_law (next : List (List Int)) (a b : Nat) (ha : a < next.length) (x y m : Bool) (hx : (reachF next).getD b false = x) (hy : (reachF (next.set a [])).getD b false = y) (hm : mustF next a b = m) :
    (a = b → m = x) ∧ (a ≠ b → m = (x && !y)) := by
  have kx : mk (reachF next) b ↔ x = true := by rw [← hx, getD_mk]
  have ky : mk (reachF (next.set a [])) b ↔ y = true := by rw [← hy, getD_mk]
  have km : (a < next.length ∧ Rt next (-1) b ∧ (b = a ∨ ¬ Rt next a b)) ↔ m = true := by rw [← hm, must_iff]
  rw [reach_mk] at kx ky
  rw [cut_reach next (next.set a []) a (by simp) (succs_set next a [] ha)] at ky
  constructor
  · intro e
    rw [Bool.eq_iff_iff, ← km, ← kx]
    exact ⟨fun h => h.2.1, fun h => ⟨ha, h, .inl e.symm⟩⟩
  · intro e
    rw [Bool.eq_iff_iff, Bool.and_eq_true, Bool.not_eq_true', ← Bool.not_eq_true, ← km, ← kx, ← ky]
    exact ⟨fun h => ⟨h.2.1, h.2.2.resolve_left (by omega)⟩, fun h => ⟨ha, h.1, .inr h.2⟩⟩

set_option maxHeartbeats 4000000 in
theorem flowCut_any (w : World) (next : List (List Int)) (A : Option Addr) (c : Nat) (hc : next.length ≤ c) (hC : (Kd.slice 3 (Kd.int .i64)).C w A next.length next) (hsz : next.length * 24 ≤ 140737488351232)
    (hlen : ∀ b, (succs next b).length * 8 ≤ 140737488351232) (a b : Nat) (ha : a ≤ 255) (hb : b ≤ 255) : Calls Try.prog 6 #[.slice A next.length c, .int .u8 a, .int .u8 b] w (BoolPost w true) := by
  obtain ⟨s, k1, hs, hsm⟩ := small_any next 60 250 (by omega) (by omega) hlen hsz
  have HC := Lib.hid hC
  have HS := Aside0.mk hs
  have a0 : (0 : Int) ≤ a := by omega
  have a1 : (a : Int) ≤ 255 := by omega
  have b0 : (0 : Int) ≤ b := by omega
  have b1 : (b : Int) ≤ 255 := by omega
  by_cases hg : s = true ∧ a < next.length ∧ b < next.length
  · obtain ⟨rfl, ha', hb'⟩ := hg
    obtain ⟨h60, _⟩ := hsm rfl
    have h60' : next.length ≤ 60 := by omega
    obtain ⟨x, hx⟩ : ∃ r, (reachF next).getD b false = r := ⟨_, rfl⟩
    obtain ⟨y, hy⟩ : ∃ r, (reachF (next.set a [])).getD b false = r := ⟨_, rfl⟩
    obtain ⟨m, hm⟩ : ∃ r, mustF next a b = r := ⟨_, rfl⟩
    have HL := Lib.hid (cut_law next a b ha' x y m hx hy hm)
    have HX := Lib.hid hx
    have HY := Lib.hid hy
    have HM := Lib.hid hm
    have d1 : decide ((next.length : Int) ≤ a) = false := decide_eq_false (by omega)
    have d2 : decide ((next.length : Int) ≤ b) = false := decide_eq_false (by omega)
    clear hC hs hsm hlen hx hy hm
    go_enter Try.func6, Try.ntmps6
    go_wp2_with fail
    refine (awake_any w).mono ?_
    rintro e w1 ⟨rfl, hB1⟩
    have HB1 := Lib.hid hB1
    clear hB1
    go_wp2_with fail
    refine (PFlowMust.seedcornref26_Small.calls k1 A c next 60 250 true w1 (Kd.C_below HC.out HB1.out) hc HS.out).mono ?_
    rintro e w2 ⟨rfl, ⟨n2, hn2⟩⟩
    have HB2 := Lib.hid (show Below w.heap.size w w2 by rw [hn2]; exact pw_below_drewN HB1.out n2)
    clear hn2
    obtain ⟨vs, hvs, hcs⟩ := heads_of (Kd.C_below HC.out HB2.out)
    obtain ⟨ad, A0, c0, hA, _⟩ := cell_nx (Kd.C_below HC.out HB2.out) a ha'
    subst hA
    have HV := Lib.hid hvs
    have HCS := Lib.hid hcs
    clear hvs hcs
    have HE := Lib.hid (World.ownsRow_lit (base := w2.heap.size) (e := 28) (size := 1) w2 #[] 0 (Nat.le_refl _) (by decide) rfl)
    go_wp2_with (at_builtin; refine wpList_append_lies _ rfl (.tmp 29) (.tmp 30) 22 rfl w2.heap.size 28 _ _ 1 24 Try.underlying22 rfl rfl rfl rfl rfl (by decide) (.slice (some ⟨w2.heap.size, 0, none⟩) 0 0) 0 [] rfl HE.out ad next.length c vs rfl ?hl ?hnews ?h1 ?hm ?h63 ?hb ?hbase _ rfl ?_)
    case hl => rw [HV.out.len, Nat.mul_one]
    case hnews =>
      intro j u hu
      obtain ⟨ad1, e1, h1⟩ := HCS.out j u hu
      cases e1
      exact pw_cell_below ((Below.refl _ _).alloc (Nat.le_refl _) _) h1
    case h1 =>
      intro u hu
      obtain ⟨j, hj⟩ := List.getElem?_of_mem hu
      have hjl := (List.getElem?_eq_some_iff.1 hj).1
      rw [HV.out.len] at hjl
      obtain ⟨A1, c1, h0, _⟩ := HV.out.at_ j next[j] (List.getElem?_eq_getElem hjl)
      rw [hj] at h0
      cases h0
      rfl
    case hm => omega
    case h63 => simp only [maxLen]; omega
    case hb => omega
    case hbase => simp
    intro g cap w3 hown hgr hg hlt
    have hg0 : w2.heap.size ≤ g := by
      rcases hg with h | h
      · have := HE.out.lt g h; omega
      · rw [h]; simp
    have hB3 : Below w2.heap.size w2 w3 := ((Below.refl _ _).alloc (Nat.le_refl _) _).grown hgr (by simp) (fun k hk => (HE.out.lt k hk).1)
    have hV3 := HV.out.below hB3
    have hcell := hown.cellAt a (by omega)
    obtain ⟨Aa, ca, hva, _⟩ := hV3.at_ a next[a] (List.getElem?_eq_getElem ha')
    rw [hva] at hcell
    have hfz := hown.frozenAt a
    have hcap := own_cap hown
    have hst := hown.stored a (.slice none 0 0)
    have HB3 := Lib.hid (below_then HB2.out HB2.out.size hB3)
    have HV4 := Lib.hid ((HV.out.below (hB3.setCell (p := ⟨g, a, none⟩) hg0 (.slice none 0 0))).set a [] none 0 (Nat.le_refl _) (nil_ints _))
    have HO := Lib.hid hst.1
    have HB4 := Lib.hid (HB3.out.setCell (p := ⟨g, a, none⟩) (by have := HB2.out.size; simp only; omega) (.slice none 0 0))
    clear hgr hg hown hV3 hst hva hB3
    go_wp2_with fail
    obtain ⟨w4, hw4⟩ : ∃ W, W = w3.setCell ⟨g, a, none⟩ (.slice none 0 0) := ⟨_, rfl⟩
    have HC4 := Lib.hid (show (Kd.slice 3 (Kd.int .i64)).C w4 (some ⟨g, 0, none⟩) (next.set a []).length (next.set a []) from by
      rw [hw4]
      refine HV4.out.C ?_ (by simp only [List.length_set]; omega)
      intro j v hj
      have hjl := (List.getElem?_eq_some_iff.1 hj).1
      rw [HO.out.cellAt j (by simp only [List.length_set, HV.out.len] at hjl; omega)]
      exact hj)
    rw [← hw4] at HB4 ⊢
    clear hw4 HV4 HO hcell hfz
    refine (reach_any w4 next (some ad) c hc (Kd.C_below HC.out HB4.out) hsz).mono ?_
    rintro e w5 ⟨v1, rfl, hR1, hB5⟩
    obtain ⟨A1, c1, rfl, hcell1⟩ := bool_cell hR1
    rw [reachF_len] at hcell1 ⊢
    obtain ⟨ad1, rfl, hb1⟩ := hcell1 b hb'
    rw [HX.out] at hb1
    have HB5 := Lib.hid (below_then HB4.out HB4.out.size hB5)
    have hr5 := reach_any w5 (next.set a []) (some ⟨g, 0, none⟩) cap (by rw [List.length_set]; exact hcap) (Kd.C_below HC4.out hB5) (by simp only [List.length_set]; omega)
    rw [List.length_set] at hr5
    have HR5 := Lib.hid hr5
    clear hR1 hcell1 hB5 hr5
    go_wp2_with fail
    refine HR5.out.mono ?_
    rintro e w6 ⟨v2, rfl, hR2, hB6⟩
    obtain ⟨A2, c2, rfl, hcell2⟩ := bool_cell hR2
    rw [reachF_len, List.length_set] at hcell2 ⊢
    obtain ⟨ad2, rfl, hb2⟩ := hcell2 b hb'
    rw [HY.out] at hb2
    have hb1' := pw_cell_below hB6 hb1
    have HB6 := Lib.hid (below_then HB5.out HB5.out.size hB6)
    have HMu := Lib.hid (show ∀ W, W.cell? (ad1.add b) = some (.bool x) → W.cell? (ad2.add b) = some (.bool y) → Below w.heap.size w W → Calls Try.prog 19 #[.slice (some ad) next.length c, .int .i64 a, .int .i64 b] W (fun e w' => e = .returned (.bool m) ∧ w'.cell? (ad1.add b) = some (.bool x) ∧ w'.cell? (ad2.add b) = some (.bool y) ∧ Below w.heap.size w w') from by
      intro W q1 q2 q3
      refine (must_any W next (some ad) c hc (Kd.C_below HC.out q3) hsz a b).mono ?_
      rw [HM.out]
      rintro e w7 ⟨rfl, hB7⟩
      exact ⟨rfl, pw_cell_below hB7 q1, pw_cell_below hB7 q2, below_then q3 q3.size hB7⟩)
    clear hR2 hcell2 hB6 HR5 hb1
    by_cases e : a = b
    · have he : ((a : Int) == b) = true := by rw [beq_iff_eq]; omega
      have hmx := HL.out.1 e
      subst hmx
      clear e
      clear HM HX HY HL HC HC4 HV HCS HE HB1 HB2 HB3 HB4 HB5
      have hB6 := HB6.out
      go_wp2_with fail
      have ea : IntKind.i64.wrap (a : Int) = a := IntWalk.i64_in _ (by omega)
      have eb : IntKind.i64.wrap (b : Int) = b := IntWalk.i64_in _ (by omega)
      go_region_held3 (fun W => W.cell? (ad1.add b) = some (.bool m) ∧ W.cell? (ad2.add b) = some (.bool y) ∧ Below w.heap.size w W) (first | exact ⟨hb1', hb2, hB6.drew⟩ | exact ⟨hb71, hb72, hB7⟩ | go_keep) (first | (go_at_call 19; refine (HMu.out _ ?_ ?_ ?_).mono ?_; (first | assumption | simp [*]); (first | assumption | simp [*]); (first | assumption | exact hB6.drew); rintro e w7 ⟨rfl, hb71, hb72, hB7⟩))
      go_wp2_with fail
      go_ret
      exact ⟨by simp, hB7⟩
    · have he : ((a : Int) == b) = false := by rw [Bool.eq_false_iff, ne_eq, beq_iff_eq]; omega
      have hmx := HL.out.2 e
      clear e HM HX HY HL HC HC4 HV HCS HE HB1 HB2 HB3 HB4 HB5
      have hB6 := HB6.out
      go_wp2_with fail
      have ea : IntKind.i64.wrap (a : Int) = a := IntWalk.i64_in _ (by omega)
      have eb : IntKind.i64.wrap (b : Int) = b := IntWalk.i64_in _ (by omega)
      cases x <;> cases y <;> simp only [Bool.not_true, Bool.not_false, Bool.and_true, Bool.and_false] at hmx <;> subst hmx
      · first | (go_region_with (go_at_call 19; refine (HMu.out _ ?_ ?_ ?_).mono ?_; (first | assumption | simp [*]); (first | assumption | simp [*]); (first | assumption | exact hB6.drew); rintro e w7 ⟨rfl, hb71, hb72, hB7⟩)) | fail
        all_goals (go_wp2_with fail; go_ret; exact ⟨rfl, by first | exact hB7 | assumption⟩)
      · first | (go_region_with (go_at_call 19; refine (HMu.out _ ?_ ?_ ?_).mono ?_; (first | assumption | simp [*]); (first | assumption | simp [*]); (first | assumption | exact hB6.drew); rintro e w7 ⟨rfl, hb71, hb72, hB7⟩)) | fail
        all_goals (go_wp2_with fail; go_ret; exact ⟨rfl, by first | exact hB7 | assumption⟩)
      · go_region_held3 (fun W => W.cell? (ad1.add b) = some (.bool true) ∧ W.cell? (ad2.add b) = some (.bool false) ∧ Below w.heap.size w W) (first | exact ⟨hb1', hb2, hB6.drew⟩ | exact ⟨hb71, hb72, hB7⟩ | go_keep) (first | (go_at_call 19; refine (HMu.out _ ?_ ?_ ?_).mono ?_; (first | assumption | simp [*]); (first | assumption | simp [*]); (first | assumption | exact hB6.drew); rintro e w7 ⟨rfl, hb71, hb72, hB7⟩))
        all_goals (go_wp2_with fail; go_ret; exact ⟨rfl, by first | exact hB7 | assumption⟩)
      · go_region_held3 (fun W => W.cell? (ad1.add b) = some (.bool true) ∧ W.cell? (ad2.add b) = some (.bool true) ∧ Below w.heap.size w W) (first | exact ⟨hb1', hb2, hB6.drew⟩ | exact ⟨hb71, hb72, hB7⟩ | go_keep) (first | (go_at_call 19; refine (HMu.out _ ?_ ?_ ?_).mono ?_; (first | assumption | simp [*]); (first | assumption | simp [*]); (first | assumption | exact hB6.drew); rintro e w7 ⟨rfl, hb71, hb72, hB7⟩))
        all_goals (go_wp2_with fail; go_ret; exact ⟨rfl, by first | exact hB7 | assumption⟩)
  · have hg' : s = false ∨ (s = true ∧ (next.length : Int) ≤ a) ∨ (s = true ∧ (a : Int) < next.length ∧ (next.length : Int) ≤ b) := by
      cases s
      · exact .inl rfl
      · right
        by_cases h : a < next.length
        · exact .inr ⟨rfl, by omega, by have : ¬ b < next.length := fun h' => hg ⟨rfl, h, h'⟩; omega⟩
        · exact .inl ⟨rfl, by omega⟩
    clear hC hs hsm hlen hg ha hb
    go_enter Try.func6, Try.ntmps6
    go_wp2_with fail
    refine (awake_any w).mono ?_
    rintro e w1 ⟨rfl, hB1⟩
    have HB1 := Lib.hid hB1
    clear hB1
    go_wp2_with fail
    refine (PFlowMust.seedcornref26_Small.calls k1 A c next 60 250 s w1 (Kd.C_below HC.out HB1.out) hc HS.out).mono ?_
    rintro e w2 ⟨rfl, ⟨n2, hn2⟩⟩
    have HB2 := Lib.hid (show Below w.heap.size w w2 by rw [hn2]; exact pw_below_drewN HB1.out n2)
    clear hn2
    rcases hg' with rfl | ⟨rfl, h1⟩ | ⟨rfl, h1, h2⟩
    · go_wp2_with fail
      go_ret
      exact ⟨rfl, HB2.out⟩
    · have d1 : decide ((next.length : Int) ≤ a) = true := decide_eq_true h1
      go_wp2_with fail
      go_ret
      exact ⟨rfl, HB2.out⟩
    · have d1 : decide ((next.length : Int) ≤ a) = false := decide_eq_false (by omega)
      have d2 : decide ((next.length : Int) ≤ b) = true := decide_eq_true h2
      go_wp2_with fail
      go_ret
      exact ⟨rfl, HB2.out⟩

theorem flowCut_row (W : World) {a0 : Option Addr} {len0 cap0 : Nat} (next : List (List Int)) (hK : (Kd.slice 28 (Kd.slice 3 (Kd.int .i64))).K W next (Value.slice a0 len0 cap0).cells.toList)
    (ok : next.length * 24 ≤ reachBytes ∧ ∀ x ∈ next, x.length * 8 ≤ reachBytes ∧ ∀ y ∈ x, (Lit.int .i64 y).wf = true) (x : Int) (hx : (Lit.int .u8 x).wf = true) (y : Int) (hy : (Lit.int .u8 y).wf = true) :
    Calls Try.prog 6 #[.slice a0 len0 cap0, .int .u8 x, .int .u8 y] W (BoolPost W true) := by
  obtain ⟨rfl, hc, hC, hsz, hlen⟩ := graph_in hK ok
  obtain ⟨x0, x1⟩ := u8_bounds hx
  obtain ⟨y0, y1⟩ := u8_bounds hy
  obtain ⟨x, rfl⟩ := Int.eq_ofNat_of_zero_le x0
  obtain ⟨y, rfl⟩ := Int.eq_ofNat_of_zero_le y0
  exact flowCut_any W next a0 cap0 hc hC hsz hlen x y (by omega) (by omega)
end Go.Proofs.Ytnlapancooecjaa
