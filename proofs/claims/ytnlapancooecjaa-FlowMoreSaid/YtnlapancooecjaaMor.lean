/- The walk of the statement FlowMore. Conditions: none beyond the row's reach. -/
import Derived.Test.YtnlapancooecjaaCut
import Derived.Deep.RegionHeld3
import Derived.Deep.AppendLies
namespace Go.Proofs.Ytnlapancooecjaa
open Go.RowKit Go.Proofs.YtnlapancooecjaaW.PrintWords
set_option linter.unusedVariables false
set_option linter.unusedSimpArgs false

/-! ### append at a step of a region that draws its order, the source nil or not -/
theorem run_app {P : Program} (W : World) (base : Nat) (t ty e : TypeId) (z : Value) (size bytes : Nat) (ht : P.underlying t = some (.slice e))
    (hinfo : (P.info? e).map (fun i => (i.zero, i.size, i.bytes)) = some (some z, size, bytes)) (hz : z.cells.size = size) (hs0 : 0 < size)
    (v : Value) (n : Nat) (xs : List Value) (HO : W.ownsRow base e size v n xs) (A : Option Addr) (m c : Nat) (news : List Value) (hl : news.length = m * size) (hA : A = none → m = 0)
    (hnews : ∀ ad, A = some ad → ∀ j u, news[j]? = some u → W.cell? (ad.add j) = some u) (h1 : ∀ u ∈ news, u.oneCell' = true) (h63 : n + m ≤ maxLen) (hb : (n + m) * bytes ≤ 140737488355328) (hbase : base ≤ W.heap.size) :
    ∃ v1 w1, (Builtin.append_ #[t, t] ty #[v, .slice A m c]).run P W = .ok v1 w1 ∧ w1.ownsRow base e size v1 (n + m) (xs ++ news) ∧ W.grownBy w1 v.ownBlock ∧ (v1.ownBlock = v.ownBlock ∨ v1.ownBlock = some W.heap.size) := by
  obtain ⟨i0, hi, hzz⟩ := Option.map_eq_some_iff.1 hinfo
  simp only [Prod.mk.injEq] at hzz
  obtain ⟨hz0, hz1, hz2⟩ := hzz
  rcases A with _ | ad
  · obtain rfl := hA rfl
    obtain rfl : news = [] := List.eq_nil_of_length_eq_zero (by omega)
    refine ⟨v, W, ?_, by simpa using HO, World.grownBy.refl W _, .inl rfl⟩
    rcases HO.2 with ⟨rfl, hn⟩ | ⟨g, cap, cur, rfl, _, _, hnc, _⟩
    · simp [Builtin.append_, run_underlying ht, sizeOf, typeInfo, hi, Builtin.lenOf, Builtin.firstCells]
    · simp [Builtin.append_, run_underlying ht, sizeOf, typeInfo, hi, Builtin.lenOf, Builtin.firstCells, hnc, storeCells]
  · obtain ⟨v1, w1, hr, ho, hg, _, hat⟩ := run_append_own_at (P := P) W base t ty e i0 z size bytes ht hi hz0 hz1 hz2 hz hs0 v n xs HO ad m c news hl (hnews ad rfl) h1 h63 hb hbase
    exact ⟨v1, w1, hr, ho, hg, hat⟩

theorem step_app {P : Program} {W : World} {ops : Array Oper} {o : Oper} {a : Act} {K : Act → World → Prop} {Q : Exit → Act → World → Prop} {E : Prop} (hgd : o.guard = none) (s x : Operand) (t : TypeId)
    (ho : o.op = .call { callee := .builtin .append, args := #[s, x], argTypes := #[t, t] })
    (base : Nat) (e : TypeId) (z : Value) (size bytes : Nat) (ht : P.underlying t = some (.slice e))
    (hinfo : (P.info? e).map (fun i => (i.zero, i.size, i.bytes)) = some (some z, size, bytes)) (hz : z.cells.size = size) (hs0 : 0 < size)
    (v : Value) (n : Nat) (xs : List Value) (hs : a.eval s = v) (HO : W.ownsRow base e size v n xs) (A : Option Addr) (m c : Nat) (news : List Value) (hx : a.eval x = .slice A m c) (hl : news.length = m * size) (hA : A = none → m = 0)
    (hnews : ∀ ad, A = some ad → ∀ j u, news[j]? = some u → W.cell? (ad.add j) = some u) (h1 : ∀ u ∈ news, u.oneCell' = true) (h63 : n + m ≤ maxLen) (hb : (n + m) * bytes ≤ 140737488355328) (hbase : base ≤ W.heap.size)
    (h : ∀ v1 w1, w1.ownsRow base e size v1 (n + m) (xs ++ news) → W.grownBy w1 v.ownBlock → (v1.ownBlock = v.ownBlock ∨ v1.ownBlock = some W.heap.size) → K (a.put o.dst v1) w1) :
    if Region.wanted o (yielded ops a.tmps) = true then Oper.wp P o a W K Q else E := by
  have hw : Region.wanted o (yielded ops a.tmps) = true := by simp [Region.wanted, hgd]
  rw [if_pos hw]
  obtain ⟨v1, w1, hr, h2, h3, h4⟩ := run_app (P := P) W base t o.type e z size bytes ht hinfo hz hs0 v n xs HO A m c news hl hA hnews h1 h63 hb hbase
  unfold Oper.wp execOp
  simp only [ho, resolve, invoke, builtin, Sem.run_bind, Sem.run_pure, Result.andThen_ok, List.map_toArray, List.map_cons, List.map_nil, hs, hx, hr]
  exact h v1 w1 h2 h3 h4

theorem succs_more (next : List (List Int)) (a : Nat) (b : Int) (ha : a < next.length) (u : Nat) : ∀ y ∈ succs next u, y ∈ succs (next.set a (succs next a ++ [b])) u := by
  intro y hy
  rw [succs_set next a _ ha]
  split
  · next h => subst h; exact List.mem_append_left _ hy
  · exact hy

theorem more_law (next : List (List Int)) (a : Nat) (b : Int) (ha : a < next.length) (x y : Nat) :
    (∀ i, (reachF next).getD i false = true → (reachF (next.set a (succs next a ++ [b]))).getD i false = true) ∧
    ((reachF next).getD y false = true → mustF (next.set a (succs next a ++ [b])) x y = true → mustF next x y = true) := by
  have hm := succs_more next a b ha
  constructor
  · intro i h
    rw [getD_mk, reach_mk] at h ⊢
    exact more_reach next _ (by simp) hm _ i h
  · intro h1 h2
    rw [getD_mk, reach_mk] at h1
    exact more_must next _ (by simp) hm x y h1 h2
end Go.Proofs.Ytnlapancooecjaa

/- The walk of the statement FlowMore. Conditions: none beyond the row's reach. -/
namespace Go.Proofs.Ytnlapancooecjaa
open Go.RowKit Go.Proofs.YtnlapancooecjaaW.PrintWords
set_option linter.unusedVariables false
set_option linter.unusedSimpArgs false

theorem row_news {W : World} {A : Option Addr} {n : Nat} {xs : List Int} (h : (Kd.int .i64).C W A n xs) : (A = none → n = 0) ∧ ∀ ad, A = some ad → ∀ j u, (nums .i64 xs)[j]? = some u → W.cell? (ad.add j) = some u := by
  have hl := Kd.C_len h
  constructor
  · intro e
    subst e
    rcases Nat.eq_zero_or_pos n with h0 | h0
    · exact h0
    · obtain ⟨ad, e, _⟩ := Kd.at_int h 0 (by omega) (by omega)
      cases e
  · intro ad e j u hu
    subst e
    have hj := (List.getElem?_eq_some_iff.1 hu).1
    rw [nums_length] at hj
    obtain ⟨ad', e, hc⟩ := Kd.at_int h j (by omega) (by omega)
    cases e
    rw [Int.toNat_natCast] at hc
    rw [hc]
    have : rd xs (j : Int) = xs[j] := by simp [rd, List.getElem?_eq_getElem hj]
    rw [this]
    simp only [nums, List.getElem?_map, List.getElem?_eq_getElem hj, Option.map_some] at hu
    exact hu
theorem row_of_own {W : World} {base g n cap : Nat} {xs : List Int} (h : W.ownsRow base 3 1 (.slice (some ⟨g, 0, none⟩) n cap) n (nums .i64 xs)) (hn : xs.length = n) : (Kd.int .i64).C W (some ⟨g, 0, none⟩) xs.length xs ∧ xs.length ≤ cap := by
  subst hn
  have hR : (Kd.int .i64).R 3 W base (fun _ => True) (.slice (some ⟨g, 0, none⟩) xs.length cap) xs := Kd.R_of_own h (fun _ _ => trivial)
  obtain ⟨_, h2, h3⟩ := Kd.R_reads' hR
  exact ⟨h3, h2⟩

set_option maxHeartbeats 16000000 in
set_option maxRecDepth 100000 in
theorem flowMore_yes (w : World) (next : List (List Int)) (A : Option Addr) (c : Nat) (hc : next.length ≤ c) (hC : (Kd.slice 3 (Kd.int .i64)).C w A next.length next) (hsz : next.length * 24 ≤ 140737488351232)
    (hlen : ∀ b, (succs next b).length * 8 ≤ 140737488351232) (x y p q : Nat) (hx : x ≤ 255) (hy : y ≤ 255) (hp : p ≤ 255) (hq : q ≤ 255) (k1 : Nat) (hs : PFlowMust.seedcornref26_Small.f k1 next 60 250 = some true)
    (h60 : next.length ≤ 60) (hl250 : ∀ b, (succs next b).length ≤ 250) (gx : x < next.length) (gy : y < next.length) (gp : p < next.length) (gq : q < next.length) :
    Calls Try.prog 8 #[.slice A next.length c, .agg #[.int .u8 x, .int .u8 y], .agg #[.int .u8 p, .int .u8 q]] w (BoolPost w true) := by
  have HC := Lib.hid hC
  have HS := Aside0.mk hs
  obtain ⟨W0, hW0⟩ : ∃ W0, W0 = (w.alloc (.cells #[.int .u8 x, .int .u8 y] 32)).alloc (.cells #[.int .u8 p, .int .u8 q] 32) := ⟨_, rfl⟩
  have HW0 := Lib.hid (show Below w.heap.size w W0 by rw [hW0]; exact ((Below.refl _ _).alloc (Nat.le_refl _) _).alloc (by simp) _)
  have HCL := Lib.hid (show ∀ W : World, Below W0.heap.size W0 W → W.cell? ⟨w.heap.size, 0, none⟩ = some (.int .u8 x) ∧ W.cell? ⟨w.heap.size, 1, none⟩ = some (.int .u8 y) ∧ W.cell? ⟨w.heap.size + 1, 0, none⟩ = some (.int .u8 p) ∧ W.cell? ⟨w.heap.size + 1, 1, none⟩ = some (.int .u8 q) from by
    intro W hW
    have z : W0.heap.size = w.heap.size + 2 := by rw [hW0]; simp
    have h1 : W0.heap[w.heap.size + 1]? = some (.cells #[.int .u8 p, .int .u8 q] 32 (0, 0)) := by rw [hW0]; have := heap_alloc_new (w.alloc (.cells #[.int .u8 x, .int .u8 y] 32)) (.cells #[.int .u8 p, .int .u8 q] 32); simpa using this
    have h0 : W0.heap[w.heap.size]? = some (.cells #[.int .u8 x, .int .u8 y] 32 (0, 0)) := by
      rw [hW0]
      have hb := ((Below.refl (w.heap.size + 1) (w.alloc (.cells #[.int .u8 x, .int .u8 y] 32))).alloc (by simp) (.cells #[.int .u8 p, .int .u8 q] 32)).block w.heap.size (by omega)
      rw [hb]
      exact heap_alloc_new w _
    have g0 := (hW.block w.heap.size (by omega)).trans h0
    have g1 := (hW.block (w.heap.size + 1) (by omega)).trans h1
    exact ⟨cell_of_blk g0 0 _ rfl, cell_of_blk g0 1 _ rfl, cell_of_blk g1 0 _ rfl, cell_of_blk g1 1 _ rfl⟩)
  have HZ0 := Lib.hid (show W0.heap.size = w.heap.size + 2 by rw [hW0]; simp)
  have x0 : (0 : Int) ≤ x := by omega
  have x1 : (x : Int) ≤ 255 := by omega
  have y0 : (0 : Int) ≤ y := by omega
  have y1 : (y : Int) ≤ 255 := by omega
  have p0 : (0 : Int) ≤ p := by omega
  have p1 : (p : Int) ≤ 255 := by omega
  have q0 : (0 : Int) ≤ q := by omega
  have q1 : (q : Int) ≤ 255 := by omega
  have dx : decide ((next.length : Int) ≤ x) = false := decide_eq_false (by omega)
  have dy : decide ((next.length : Int) ≤ y) = false := decide_eq_false (by omega)
  have dp : decide ((next.length : Int) ≤ p) = false := decide_eq_false (by omega)
  have dq : decide ((next.length : Int) ≤ q) = false := decide_eq_false (by omega)
  have gx' : (x : Int) < next.length := by omega
  have gy' : (y : Int) < next.length := by omega
  have gp' : (p : Int) < next.length := by omega
  have gq' : (q : Int) < next.length := by omega
  have hlx : (succs next x).length ≤ 250 := hl250 x
  have HLAW := Lib.hid (more_law next x y gx p q)
  clear hC hs hlen hl250 hx hy hp hq
  have HE0 := Lib.hid hW0
  clear hW0
  go_enter Try.func8, Try.ntmps8
  go_wp2_with fail
  rw [← HE0.out]
  refine (awake_any W0).mono ?_
  rintro e w1 ⟨rfl, hB1⟩
  have HB1 := Lib.hid hB1
  clear hB1
  go_wp2_with fail
  refine (PFlowMust.seedcornref26_Small.calls k1 A c next 60 250 true w1 (Kd.C_below HC.out (below_then HW0.out HW0.out.size HB1.out)) hc HS.out).mono ?_
  rintro e w2 ⟨rfl, ⟨n2, hn2⟩⟩
  have HB2 := Lib.hid (show Below W0.heap.size W0 w2 by rw [hn2]; exact pw_below_drewN HB1.out n2)
  clear hn2
  obtain ⟨cx, cy, cp, cq⟩ := HCL.out w2 HB2.out
  have HBW2 := Lib.hid (below_then HW0.out HW0.out.size HB2.out)
  obtain ⟨vs, hvs, hcs⟩ := heads_of (Kd.C_below HC.out HBW2.out)
  obtain ⟨ad, A0, c0, hA, hcx, hlc0, hC0⟩ := cell_nx (Kd.C_below HC.out HBW2.out) x gx
  subst hA
  have HV := Lib.hid hvs
  have HCS := Lib.hid hcs
  have HC0 := Lib.hid hC0
  have HCX := Lib.hid hcx
  clear hvs hcs hC0 hcx
  have HE := Lib.hid (World.ownsRow_lit (base := w2.heap.size) (e := 28) (size := 1) w2 #[] 0 (Nat.le_refl _) (by decide) rfl)
  go_wp2_with (at_builtin; refine wpList_append_lies _ rfl (.tmp 49) (.tmp 50) 22 rfl w2.heap.size 28 _ _ 1 24 Try.underlying22 rfl rfl rfl rfl rfl (by decide) (.slice (some ⟨w2.heap.size, 0, none⟩) 0 0) 0 [] rfl HE.out ad next.length c vs rfl ?hl ?hnews ?h1 ?hm ?h63 ?hb ?hbase _ rfl ?_)
  case hl => rw [HV.out.len, Nat.mul_one]
  case hnews =>
    intro j u hu
    obtain ⟨ad1, e1, h1⟩ := HCS.out j u hu
    cases e1
    exact pw_cell_below ((Below.refl _ _).alloc (Nat.le_refl _) _) h1
  case h1 =>
    intro u hu
    obtain ⟨j, hj⟩ := List.getElem?_of_mem hu
    have hjl := (List.getElem?_eq_some_iff.1 hj).1
    rw [HV.out.len] at hjl
    obtain ⟨A1, c1, h0, _⟩ := HV.out.at_ j next[j] (List.getElem?_eq_getElem hjl)
    rw [hj] at h0
    cases h0
    rfl
  case hm => omega
  case h63 => simp only [maxLen]; omega
  case hb => omega
  case hbase => simp
  intro g cap w3 hown hgr hg hlt
  have hg0 : w2.heap.size ≤ g := by
    rcases hg with h | h
    · have := HE.out.lt g h; omega
    · rw [h]; simp
  have hB3 : Below w2.heap.size w2 w3 := ((Below.refl _ _).alloc (Nat.le_refl _) _).grown hgr (by simp) (fun k hk => (HE.out.lt k hk).1)
  have hV3 := HV.out.below hB3
  have hcell := hown.cellAt x (by omega)
  obtain ⟨Aa, ca, hva, _⟩ := hV3.at_ x next[x] (List.getElem?_eq_getElem gx)
  rw [hva] at hcell
  have hfz := hown.frozenAt x
  have hcap := own_cap hown
  have cx3 := pw_cell_below hB3 cx
  have cy3 := pw_cell_below hB3 cy
  have hcx3 := pw_cell_below hB3 HCX.out
  have HC03 := Lib.hid (Kd.C_below HC0.out hB3)
  have HOWN := Lib.hid hown
  have HV3 := Lib.hid hV3
  have HB3 := Lib.hid (below_then HBW2.out HBW2.out.size hB3)
  have HB30 := Lib.hid (below_then HB2.out HB2.out.size hB3)
  have glt : g < w3.heap.size := hlt
  have gcap : next.length ≤ cap := hcap
  have HCXY := Lib.hid (And.intro cx cy)
  have hB3' := hB3
  clear cx cy cp cq hB3 hva hV3 hgr hg hown hlt
  have HCE := Lib.hid hcell
  have HFZ := Lib.hid hfz
  clear hcell hfz
  have HS2 := Lib.hid (show ∀ V, Below w2.heap.size w2 V → (V.cell? ⟨w.heap.size, 0, none⟩ = some (.int .u8 x) ∧ V.cell? ⟨w.heap.size, 1, none⟩ = some (.int .u8 y) ∧ V.cell? (ad.add x) = some (.slice A0 (succs next x).length c0)) from
    fun V h => ⟨pw_cell_below h HCXY.out.1, pw_cell_below h HCXY.out.2, pw_cell_below h HCX.out⟩)
  have HB23 := Lib.hid hB3'
  have HGA := Lib.hid hg0
  clear hB3' hg0 hcap
  have HRW := Lib.hid (show ∀ V, Below w3.heap.size w3 V → (Kd.int .i64).C V A0 (succs next x).length (succs next x) from fun V h => Kd.C_below HC03.out h)
  have HGL := Lib.hid glt
  have hwy : IntKind.i64.wrap (y : Int) = y := IntWalk.i64_in _ (by omega)
  go_wp2_with fail
  refine wp_region_held_drew (S := fun W => W.cell? ⟨w.heap.size, 0, none⟩ = some (.int .u8 x) ∧ W.cell? ⟨w.heap.size, 1, none⟩ = some (.int .u8 y) ∧ W.cell? (ad.add x) = some (.slice A0 (succs next x).length c0)) (by kernel_rfl) (HS2.out _ (below_drew HB23.out)) (fun hSd => ?_)
  refine wpAnyH_take (i := 0) (v := ?_) rfl (by kernel_rfl) (by kernel_rfl) (by kernel_rfl) (fun _ _ _ h => h) (Or.inl ⟨by rfl, ?_⟩) (by assumption) ?_
  rotate_left
  · (intro w hSw; (try dsimp only at hSw); go_simp; try with_reducible rfl)
  (try simp only [List.getElem_toArray, List.getElem_cons_succ, List.getElem_cons_zero, Act.put, List.setIfInBounds_toArray, List.set_cons_zero, List.set_cons_succ])
  refine wpAnyH_take (i := 1) (v := ?_) rfl (by kernel_rfl) (by kernel_rfl) (by kernel_rfl) (fun _ _ _ h => h) (Or.inl ⟨by rfl, ?_⟩) (by assumption) ?_
  rotate_left
  · (intro w hSw; (try dsimp only at hSw); go_simp; try with_reducible rfl)
  (try simp only [List.getElem_toArray, List.getElem_cons_succ, List.getElem_cons_zero, Act.put, List.setIfInBounds_toArray, List.set_cons_zero, List.set_cons_succ])
  refine wpAnyH_take (i := 2) (v := ?_) rfl (by kernel_rfl) (by kernel_rfl) (by kernel_rfl) (fun _ _ _ h => h) (Or.inl ⟨by rfl, ?_⟩) (by assumption) ?_
  rotate_left
  · (intro w hSw; (try dsimp only at hSw); go_simp; try with_reducible rfl)
  (try simp only [List.getElem_toArray, List.getElem_cons_succ, List.getElem_cons_zero, Act.put, List.setIfInBounds_toArray, List.set_cons_zero, List.set_cons_succ])
  refine wpAnyH_take (i := 4) (v := ?_) rfl (by kernel_rfl) (by kernel_rfl) (by kernel_rfl) (fun _ _ _ h => h) (Or.inl ⟨by rfl, ?_⟩) (by assumption) ?_
  rotate_left
  · (intro w hSw; (try dsimp only at hSw); go_simp; try with_reducible rfl)
  (try simp only [List.getElem_toArray, List.getElem_cons_succ, List.getElem_cons_zero, Act.put, List.setIfInBounds_toArray, List.set_cons_zero, List.set_cons_succ])
  refine wpAnyH_take (i := 5) (v := ?_) rfl (by kernel_rfl) (by kernel_rfl) (by kernel_rfl) (fun _ _ _ h => h) (Or.inl ⟨by rfl, ?_⟩) (by assumption) ?_
  rotate_left
  · (intro w hSw; (try dsimp only at hSw); go_simp; try with_reducible rfl)
  (try simp only [List.getElem_toArray, List.getElem_cons_succ, List.getElem_cons_zero, Act.put, List.setIfInBounds_toArray, List.set_cons_zero, List.set_cons_succ])
  refine wpAnyH_take (i := 6) (v := ?_) rfl (by kernel_rfl) (by kernel_rfl) (by kernel_rfl) (fun _ _ _ h => h) (Or.inl ⟨by rfl, ?_⟩) (by assumption) ?_
  rotate_left
  · (intro w hSw; (try dsimp only at hSw); go_simp; try with_reducible rfl)
  (try simp only [List.getElem_toArray, List.getElem_cons_succ, List.getElem_cons_zero, Act.put, List.setIfInBounds_toArray, List.set_cons_zero, List.set_cons_succ])
  refine wpAnyH_take (i := 7) (v := ?_) rfl (by kernel_rfl) (by kernel_rfl) (by kernel_rfl) (fun _ _ _ h => h) (Or.inl ⟨by rfl, ?_⟩) (by assumption) ?_
  rotate_left
  · (intro w hSw; (try dsimp only at hSw); go_simp; try with_reducible rfl)
  (try simp only [List.getElem_toArray, List.getElem_cons_succ, List.getElem_cons_zero, Act.put, List.setIfInBounds_toArray, List.set_cons_zero, List.set_cons_succ])
  refine wpAnyH_take (i := 8) (v := ?_) rfl (by kernel_rfl) (by kernel_rfl) (by kernel_rfl) (fun _ _ _ h => h) (Or.inl ⟨by rfl, ?_⟩) (by assumption) ?_
  rotate_left
  · (intro w hSw; (try dsimp only at hSw); go_simp; try with_reducible rfl)
  (try simp only [List.getElem_toArray, List.getElem_cons_succ, List.getElem_cons_zero, Act.put, List.setIfInBounds_toArray, List.set_cons_zero, List.set_cons_succ])
  refine wpAnyH_take (i := 10) (v := ?_) rfl (by kernel_rfl) (by kernel_rfl) (by kernel_rfl) (fun _ _ _ h => h) (Or.inl ⟨by rfl, ?_⟩) (by assumption) ?_
  rotate_left
  · (intro w hSw; (try dsimp only at hSw); go_simp; try with_reducible rfl)
  (try simp only [List.getElem_toArray, List.getElem_cons_succ, List.getElem_cons_zero, Act.put, List.setIfInBounds_toArray, List.set_cons_zero, List.set_cons_succ])
  refine wpAnyH_take (i := 11) (v := ?_) rfl (by kernel_rfl) (by kernel_rfl) (by kernel_rfl) (fun _ _ _ h => h) (Or.inl ⟨by rfl, ?_⟩) (by assumption) ?_
  rotate_left
  · (intro w hSw; (try dsimp only at hSw); go_simp; try with_reducible rfl)
  (try simp only [List.getElem_toArray, List.getElem_cons_succ, List.getElem_cons_zero, Act.put, List.setIfInBounds_toArray, List.set_cons_zero, List.set_cons_succ])
  refine wpAnyH_take (i := 12) (v := ?_) rfl (by kernel_rfl) (by kernel_rfl) (by kernel_rfl) (fun _ _ _ h => h) (Or.inl ⟨by rfl, ?_⟩) (by assumption) ?_
  rotate_left
  · (intro w hSw; (try dsimp only at hSw); go_simp; try with_reducible rfl)
  (try simp only [List.getElem_toArray, List.getElem_cons_succ, List.getElem_cons_zero, Act.put, List.setIfInBounds_toArray, List.set_cons_zero, List.set_cons_succ])
  refine wpAnyH_ready (rs := [3, 13]) (by kernel_rfl) (by simp) ?_
  refine AllReadyH.cons rfl (fun K hK => ?_) (AllReadyH.cons rfl (fun K hK => ?_) AllReadyH.nil)
  · -- the empty one first
    go_simp
    obtain ⟨V1, hV⟩ : ∃ V, V = (w3.alloc (.cells #[] 3)).drew := ⟨_, rfl⟩
    rw [← hV]
    have bV1 : Below w3.heap.size w3 V1 := by rw [hV]; exact below_drew ((Below.refl w3.heap.size w3).alloc (Nat.le_refl _) _)
    have oE : V1.ownsRow w3.heap.size 3 1 (.slice (some ⟨w3.heap.size, 0, none⟩) 0 0) 0 [] := by rw [hV]; exact pw_own_below (World.ownsRow_lit (base := w3.heap.size) (e := 3) (size := 1) w3 #[] 0 (Nat.le_refl _) (by decide) rfl) (below_drew (Below.refl _ _))
    have zV1 : V1.heap.size = w3.heap.size + 1 := by rw [hV]; simp
    have OE := Lib.hid oE
    have ZV1 := Lib.hid zV1
    clear hV oE zV1
    refine hK.out _ _ (HS2.out V1 (below_then HB23.out HB23.out.size bV1)) (fun hSeV1 => ?_)
    clear hK K
    (try simp only [List.getElem_toArray, List.getElem_cons_succ, List.getElem_cons_zero, Act.put, List.setIfInBounds_toArray, List.set_cons_zero, List.set_cons_succ])
    refine wpAnyH_ready (rs := [9, 13]) (by kernel_rfl) (by simp) ?_
    refine AllReadyH.cons rfl (fun K hK => ?_) (AllReadyH.cons rfl (fun K hK => ?_) AllReadyH.nil)
    · -- then the row
      refine step_app rfl (.tmp 55) (.tmp 60) 28 rfl w3.heap.size 3 (.int .i64 0) 1 8 Try.underlying28 int_info rfl (by decide) (.slice (some ⟨w3.heap.size, 0, none⟩) 0 0) 0 [] rfl OE.out A0 (succs next x).length c0 (nums .i64 (succs next x)) rfl (by rw [nums_length]; omega) (row_news (HRW.out V1 bV1)).1 (row_news (HRW.out V1 bV1)).2 (nums_one _) (by simp only [maxLen]; omega) (by omega) bV1.size ?_
      intro v1 V2 o1 g1 at1
      rw [Nat.zero_add, List.nil_append] at o1
      have bV2 : Below w3.heap.size w3 V2 := bV1.grown g1 bV1.size (own_base OE.out)
      have O1 := Lib.hid o1
      have G1 := Lib.hid g1
      clear o1 g1 at1
      refine hK.out _ _ (HS2.out V2 (below_then HB23.out HB23.out.size bV2)) (fun hSeV2 => ?_)
      clear hK K
      (try simp only [List.getElem_toArray, List.getElem_cons_succ, List.getElem_cons_zero, Act.put, List.setIfInBounds_toArray, List.set_cons_zero, List.set_cons_succ])
      refine wpAnyH_ready (rs := [13]) (by kernel_rfl) (by simp) ?_
      refine AllReadyH.cons rfl (fun K hK => ?_) AllReadyH.nil
      go_simp
      obtain ⟨V3, hV⟩ : ∃ V, V = V2.alloc (.cells #[.int .i64 y] 3) := ⟨_, rfl⟩
      rw [← hV]
      have bV3 : Below w3.heap.size w3 V3 := by rw [hV]; exact bV2.alloc bV2.size _
      have kV3 : Below V2.heap.size V2 V3 := by rw [hV]; exact (Below.refl _ _).alloc (Nat.le_refl _) _
      have gB : V3.heap[V2.heap.size]? = some (.cells #[.int .i64 y] 3 (0, 0)) := by rw [hV]; exact heap_alloc_new V2 _
      have zV3 : V3.heap.size = V2.heap.size + 1 := by rw [hV]; simp
      have GB := Lib.hid gB
      have ZV3 := Lib.hid zV3
      clear hV gB zV3
      refine hK.out _ _ (HS2.out V3 (below_then HB23.out HB23.out.size bV3)) (fun hSeV3 => ?_)
      clear hK K
      (try simp only [List.getElem_toArray, List.getElem_cons_succ, List.getElem_cons_zero, Act.put, List.setIfInBounds_toArray, List.set_cons_zero, List.set_cons_succ])
      have O1 := Lib.hid (pw_own_below O1.out kV3)
      refine wpAnyH_ready (rs := [14]) (by kernel_rfl) (by simp) ?_
      refine AllReadyH.cons rfl (fun K hK => ?_) AllReadyH.nil
      refine step_app rfl (.tmp 61) (.tmp 65) 28 rfl w3.heap.size 3 (.int .i64 0) 1 8 Try.underlying28 int_info rfl (by decide) v1 (succs next x).length (nums .i64 (succs next x)) rfl O1.out (some ⟨V2.heap.size, 0, none⟩) 1 1 [.int .i64 y] rfl rfl (fun h => by cases h) (fun ad1 e1 => by cases e1; exact World.news_of_block (cs := #[.int .i64 y]) GB.out) (by simp [Value.oneCell']) (by simp only [maxLen]; omega) (by omega) bV3.size ?_
      intro v2 V4 o2 g2 at2
      obtain ⟨gg, cap2, rfl, hgg, _⟩ := o2.form (by omega)
      have bV4 : Below w3.heap.size w3 V4 := bV3.grown g2 bV3.size (own_base O1.out)
      have o2' : V4.ownsRow w3.heap.size 3 1 (.slice (some ⟨gg, 0, none⟩) ((succs next x).length + 1) cap2) ((succs next x).length + 1) (nums .i64 (succs next x ++ [(y : Int)])) := by rw [nums_append]; exact o2
      have O2 := Lib.hid o2'
      have HGG := Lib.hid hgg
      clear o2 g2 at2 o2' hgg
      refine hK.out _ _ (HS2.out V4 (below_then HB23.out HB23.out.size bV4)) (fun hSeV4 => ?_)
      clear hK K
      (try simp only [List.getElem_toArray, List.getElem_cons_succ, List.getElem_cons_zero, Act.put, List.setIfInBounds_toArray, List.set_cons_zero, List.set_cons_succ])
      refine wpAnyH_take (i := 15) (v := ?_) rfl (by kernel_rfl) (by kernel_rfl) (by kernel_rfl) (fun _ _ _ h => h) (Or.inl ⟨by rfl, ?_⟩) (by assumption) ?_
      rotate_left
      · (intro w hSw; (try dsimp only at hSw); go_simp; try with_reducible rfl)
      (try simp only [List.getElem_toArray, List.getElem_cons_succ, List.getElem_cons_zero, Act.put, List.setIfInBounds_toArray, List.set_cons_zero, List.set_cons_succ])
      have hcell2 := pw_cell_below bV4 HCE.out
      have hfz2 : V4.frozen? ⟨g, x, none⟩ = false := (bV4.frozen (p := ⟨g, x, none⟩) HGL.out).trans HFZ.out
      refine wpAnyH_ready (rs := [16]) (by kernel_rfl) (by simp) ?_
      refine AllReadyH.cons rfl (fun K hK => ?_) AllReadyH.nil
      go_simp
      have b4 := Lib.hid ((below_then HB23.out HB23.out.size bV4).setCell (p := ⟨g, x, none⟩) HGA.out (.slice (some ⟨gg, 0, none⟩) ((succs next x).length + 1) cap2))
      refine hK.out _ _ (HS2.out _ b4.out) (fun hSf => ?_)
      clear hK K
      (try simp only [List.getElem_toArray, List.getElem_cons_succ, List.getElem_cons_zero, Act.put, List.setIfInBounds_toArray, List.set_cons_zero, List.set_cons_succ])
      refine wpAnyH_done (by kernel_rfl) ?_ _
      obtain ⟨W4, hW4⟩ : ∃ W4, W4 = V4.setCell ⟨g, x, none⟩ (.slice (some ⟨gg, 0, none⟩) ((succs next x).length + 1) cap2) := ⟨_, rfl⟩
      rw [← hW4]
      have B24 := Lib.hid (show Below w2.heap.size w2 W4 by rw [hW4]; exact b4.out)
      have OG := Lib.hid (show W4.ownsRow w2.heap.size 28 1 (.slice (some ⟨g, 0, none⟩) next.length cap) next.length (vs.set x (.slice (some ⟨gg, 0, none⟩) ((succs next x).length + 1) cap2)) by
        rw [hW4]
        have h := pw_own_below HOWN.out bV4
        have hs := (h.stored x (.slice (some ⟨gg, 0, none⟩) ((succs next x).length + 1) cap2)).1
        simpa using hs)
      have OR := Lib.hid (show W4.ownsRow w3.heap.size 3 1 (.slice (some ⟨gg, 0, none⟩) ((succs next x).length + 1) cap2) ((succs next x).length + 1) (nums .i64 (succs next x ++ [(y : Int)])) by
        rw [hW4]
        refine own_setCell O2.out ?_ _
        intro e
        have e' : g = gg := by simpa [Value.ownBlock] using e
        have := HGL.out
        have := HGG.out
        omega)
      have BW4 := Lib.hid (below_then HBW2.out HBW2.out.size B24.out)
      have B24W := Lib.hid (below_then HB2.out HB2.out.size B24.out)
      have HC4 := Lib.hid (show (Kd.slice 3 (Kd.int .i64)).C W4 (some ⟨g, 0, none⟩) (next.set x (succs next x ++ [(y : Int)])).length (next.set x (succs next x ++ [(y : Int)])) from by
        have hrow := row_of_own OR.out (by simp)
        have hs := (HV.out.below B24.out).set x (succs next x ++ [(y : Int)]) (some ⟨gg, 0, none⟩) cap2 hrow.2 hrow.1
        refine Heads.C (vs := vs.set x (.slice (some ⟨gg, 0, none⟩) ((succs next x).length + 1) cap2)) (by simpa using hs) ?_ (by simp only [List.length_set]; omega)
        intro j v hj
        have hjl := (List.getElem?_eq_some_iff.1 hj).1
        rw [OG.out.cellAt j (by simp only [List.length_set, HV.out.len] at hjl; omega)]
        exact hj)
      clear OR OG O2 O1 OE GB HOWN B24 b4 hW4 hcell2 hfz2 hSf HRW HC03 HV3 HV HCS HGL HGG HFZ HCE HCXY HCX cx3 cy3 hcx3
      go_wp2_with fail
      refine (reach_any W4 next (some ad) c hc (Kd.C_below HC.out BW4.out) hsz).mono ?_
      rintro e w5 ⟨r1, rfl, hR1, hB5⟩
      obtain ⟨A1, c1, rfl, hcell1⟩ := bool_cell hR1
      rw [reachF_len] at hcell1 ⊢
      obtain ⟨ad1, rfl, _⟩ := hcell1 x gx
      have HB5 := Lib.hid (below_then BW4.out BW4.out.size hB5)
      have HB45 := Lib.hid hB5
      have hr5 := reach_any w5 (next.set x (succs next x ++ [(y : Int)])) (some ⟨g, 0, none⟩) cap (by rw [List.length_set]; exact gcap) (Kd.C_below HC4.out hB5) (by simp only [List.length_set]; omega)
      rw [List.length_set] at hr5
      have HR5 := Lib.hid hr5
      have HC5 := Lib.hid (Kd.C_below HC4.out hB5)
      have HCL1 := Lib.hid hcell1
      clear hR1 hcell1 hB5 hr5 HC4
      go_wp2_with fail
      refine HR5.out.mono ?_
      rintro e w6 ⟨r2, rfl, hR2, hB6⟩
      obtain ⟨A2, c2, rfl, hcell2⟩ := bool_cell hR2
      rw [reachF_len, List.length_set] at hcell2 ⊢
      obtain ⟨ad2, rfl, _⟩ := hcell2 x gx
      have HB6 := Lib.hid (below_then HB5.out HB5.out.size hB6)
      have HC6 := Lib.hid (Kd.C_below HC5.out hB6)
      have HCL2 := Lib.hid hcell2
      have HCL16 := Lib.hid (show ∀ i, i < next.length → ∃ ad', some ad1 = some ad' ∧ w6.cell? (ad'.add i) = some (.bool ((reachF next).getD i false)) from fun i hi => by
        obtain ⟨ad', e, h⟩ := HCL1.out i hi
        exact ⟨ad', e, pw_cell_below hB6 h⟩)
      have HBX0 := Lib.hid (below_then (below_then B24W.out B24W.out.size HB45.out) (below_then B24W.out B24W.out.size HB45.out).size hB6)
      clear hR2 hcell2 hB6 HR5 HC5 HCL1
      go_wp2_with fail
      go_loop [11] (fun vi => ∃ i : Nat, i ≤ next.length ∧ vi = .int .i64 i) (fun vi => next.length - (intOf vi).toNat)
      case atStart => exact ⟨0, Nat.zero_le _, rfl⟩
      case round =>
        obtain ⟨i, hi, rfl⟩ := hrel
        by_cases hlt : i < next.length
        · obtain ⟨ai, hai⟩ : ∃ r, (reachF next).getD i false = r := ⟨_, rfl⟩
          obtain ⟨bi, hbi⟩ : ∃ r, (reachF (next.set x (succs next x ++ [(y : Int)]))).getD i false = r := ⟨_, rfl⟩
          have hab : ai = true → bi = true := by rw [← hai, ← hbi]; exact HLAW.out.1 i
          obtain ⟨ad1', e1, ci1⟩ := HCL16.out i hlt
          cases e1
          obtain ⟨ad2', e2, ci2⟩ := HCL2.out i hlt
          cases e2
          rw [hai] at ci1
          rw [hbi] at ci2
          clear hai hbi
          have i0 : (0 : Int) ≤ i := by omega
          have i1 : (i : Int) < next.length := by omega
          have i2 : decide ((i : Int) < next.length) = true := decide_eq_true i1
          cases ai with
          | false =>
            clear hab
            go_wp2_with fail
            go_round
            case rel => exact ⟨i + 1, by omega, by go_num⟩
            case measure => simp [intOf]; omega
          | true =>
            obtain rfl := hab rfl
            clear hab
            go_wp2_with fail
            go_round
            case rel => exact ⟨i + 1, by omega, by go_num⟩
            case measure => simp [intOf]; omega
        · obtain rfl : i = next.length := by omega
          have i2 : decide ((next.length : Int) < next.length) = false := decide_eq_false (by omega)
          obtain ⟨sx, sy, sp, sq⟩ := HCL.out w6 HBX0.out
          obtain ⟨aq, haq⟩ : ∃ r, (reachF next).getD q false = r := ⟨_, rfl⟩
          obtain ⟨m1, hm1⟩ : ∃ r, mustF (next.set x (succs next x ++ [(y : Int)])) p q = r := ⟨_, rfl⟩
          obtain ⟨m2, hm2⟩ : ∃ r, mustF next p q = r := ⟨_, rfl⟩
          have hl := HLAW.out.2
          rw [haq, hm1, hm2] at hl
          obtain ⟨ad1', e1, ci1⟩ := HCL16.out q gq
          cases e1
          rw [haq] at ci1
          have HM1 := Lib.hid hm1
          have HM2 := Lib.hid hm2
          have HL := Lib.hid hl
          clear haq hm1 hm2 hl hlt hi sx sy
          cases aq with
          | false =>
            go_wp2_with fail
            go_ret
            exact ⟨rfl, HB6.out⟩
          | true =>
            have hr7 := must_any w6 (next.set x (succs next x ++ [(y : Int)])) (some ⟨g, 0, none⟩) cap (by rw [List.length_set]; exact gcap) HC6.out (by simp only [List.length_set]; omega) p q
            rw [List.length_set, HM1.out] at hr7
            have HR7 := Lib.hid hr7
            clear hr7
            cases m1 with
            | false =>
              go_wp2_with fail
              refine HR7.out.mono ?_
              rintro e w7 ⟨rfl, hB7⟩
              have HB7 := Lib.hid (below_then HB6.out HB6.out.size hB7)
              clear hB7
              go_wp2_with fail
              go_ret
              exact ⟨rfl, HB7.out⟩
            | true =>
              obtain rfl := HL.out rfl rfl
              go_wp2_with fail
              refine HR7.out.mono ?_
              rintro e w7 ⟨rfl, hB7⟩
              have HB7 := Lib.hid (below_then HB6.out HB6.out.size hB7)
              clear hB7
              go_wp2_with fail
              refine (must_any w7 next (some ad) c hc (Kd.C_below HC.out HB7.out) hsz p q).mono ?_
              rw [HM2.out]
              rintro e w8 ⟨rfl, hB8⟩
              have HB8 := Lib.hid (below_then HB7.out HB7.out.size hB8)
              clear hB8
              go_wp2_with fail
              go_ret
              exact ⟨rfl, HB8.out⟩
    · -- then the one
      go_simp
      obtain ⟨V2, hV⟩ : ∃ V, V = V1.alloc (.cells #[.int .i64 y] 3) := ⟨_, rfl⟩
      rw [← hV]
      have bV2 : Below w3.heap.size w3 V2 := by rw [hV]; exact bV1.alloc bV1.size _
      have kV2 : Below V1.heap.size V1 V2 := by rw [hV]; exact (Below.refl _ _).alloc (Nat.le_refl _) _
      have gB : V2.heap[V1.heap.size]? = some (.cells #[.int .i64 y] 3 (0, 0)) := by rw [hV]; exact heap_alloc_new V1 _
      have zV2 : V2.heap.size = V1.heap.size + 1 := by rw [hV]; simp
      have GB := Lib.hid gB
      have ZV2 := Lib.hid zV2
      clear hV gB zV2
      refine hK.out _ _ (HS2.out V2 (below_then HB23.out HB23.out.size bV2)) (fun hSeV2 => ?_)
      clear hK K
      (try simp only [List.getElem_toArray, List.getElem_cons_succ, List.getElem_cons_zero, Act.put, List.setIfInBounds_toArray, List.set_cons_zero, List.set_cons_succ])
      have OE := Lib.hid (pw_own_below OE.out kV2)
      refine wpAnyH_ready (rs := [9]) (by kernel_rfl) (by simp) ?_
      refine AllReadyH.cons rfl (fun K hK => ?_) AllReadyH.nil
      refine step_app rfl (.tmp 55) (.tmp 60) 28 rfl w3.heap.size 3 (.int .i64 0) 1 8 Try.underlying28 int_info rfl (by decide) (.slice (some ⟨w3.heap.size, 0, none⟩) 0 0) 0 [] rfl OE.out A0 (succs next x).length c0 (nums .i64 (succs next x)) rfl (by rw [nums_length]; omega) (row_news (HRW.out V2 bV2)).1 (row_news (HRW.out V2 bV2)).2 (nums_one _) (by simp only [maxLen]; omega) (by omega) bV2.size ?_
      intro v1 V3 o1 g1 at1
      rw [Nat.zero_add, List.nil_append] at o1
      have bV3 : Below w3.heap.size w3 V3 := bV2.grown g1 bV2.size (own_base OE.out)
      have O1 := Lib.hid o1
      have G1 := Lib.hid g1
      clear o1 g1 at1
      refine hK.out _ _ (HS2.out V3 (below_then HB23.out HB23.out.size bV3)) (fun hSeV3 => ?_)
      clear hK K
      (try simp only [List.getElem_toArray, List.getElem_cons_succ, List.getElem_cons_zero, Act.put, List.setIfInBounds_toArray, List.set_cons_zero, List.set_cons_succ])
      have GB := Lib.hid (blk_grown GB.out G1.out (by have := ZV1.out; simp [Value.ownBlock]; omega))
      refine wpAnyH_ready (rs := [14]) (by kernel_rfl) (by simp) ?_
      refine AllReadyH.cons rfl (fun K hK => ?_) AllReadyH.nil
      refine step_app rfl (.tmp 61) (.tmp 65) 28 rfl w3.heap.size 3 (.int .i64 0) 1 8 Try.underlying28 int_info rfl (by decide) v1 (succs next x).length (nums .i64 (succs next x)) rfl O1.out (some ⟨V1.heap.size, 0, none⟩) 1 1 [.int .i64 y] rfl rfl (fun h => by cases h) (fun ad1 e1 => by cases e1; exact World.news_of_block (cs := #[.int .i64 y]) GB.out) (by simp [Value.oneCell']) (by simp only [maxLen]; omega) (by omega) bV3.size ?_
      intro v2 V4 o2 g2 at2
      obtain ⟨gg, cap2, rfl, hgg, _⟩ := o2.form (by omega)
      have bV4 : Below w3.heap.size w3 V4 := bV3.grown g2 bV3.size (own_base O1.out)
      have o2' : V4.ownsRow w3.heap.size 3 1 (.slice (some ⟨gg, 0, none⟩) ((succs next x).length + 1) cap2) ((succs next x).length + 1) (nums .i64 (succs next x ++ [(y : Int)])) := by rw [nums_append]; exact o2
      have O2 := Lib.hid o2'
      have HGG := Lib.hid hgg
      clear o2 g2 at2 o2' hgg
      refine hK.out _ _ (HS2.out V4 (below_then HB23.out HB23.out.size bV4)) (fun hSeV4 => ?_)
      clear hK K
      (try simp only [List.getElem_toArray, List.getElem_cons_succ, List.getElem_cons_zero, Act.put, List.setIfInBounds_toArray, List.set_cons_zero, List.set_cons_succ])
      refine wpAnyH_take (i := 15) (v := ?_) rfl (by kernel_rfl) (by kernel_rfl) (by kernel_rfl) (fun _ _ _ h => h) (Or.inl ⟨by rfl, ?_⟩) (by assumption) ?_
      rotate_left
      · (intro w hSw; (try dsimp only at hSw); go_simp; try with_reducible rfl)
      (try simp only [List.getElem_toArray, List.getElem_cons_succ, List.getElem_cons_zero, Act.put, List.setIfInBounds_toArray, List.set_cons_zero, List.set_cons_succ])
      have hcell2 := pw_cell_below bV4 HCE.out
      have hfz2 : V4.frozen? ⟨g, x, none⟩ = false := (bV4.frozen (p := ⟨g, x, none⟩) HGL.out).trans HFZ.out
      refine wpAnyH_ready (rs := [16]) (by kernel_rfl) (by simp) ?_
      refine AllReadyH.cons rfl (fun K hK => ?_) AllReadyH.nil
      go_simp
      have b4 := Lib.hid ((below_then HB23.out HB23.out.size bV4).setCell (p := ⟨g, x, none⟩) HGA.out (.slice (some ⟨gg, 0, none⟩) ((succs next x).length + 1) cap2))
      refine hK.out _ _ (HS2.out _ b4.out) (fun hSf => ?_)
      clear hK K
      (try simp only [List.getElem_toArray, List.getElem_cons_succ, List.getElem_cons_zero, Act.put, List.setIfInBounds_toArray, List.set_cons_zero, List.set_cons_succ])
      refine wpAnyH_done (by kernel_rfl) ?_ _
      obtain ⟨W4, hW4⟩ : ∃ W4, W4 = V4.setCell ⟨g, x, none⟩ (.slice (some ⟨gg, 0, none⟩) ((succs next x).length + 1) cap2) := ⟨_, rfl⟩
      rw [← hW4]
      have B24 := Lib.hid (show Below w2.heap.size w2 W4 by rw [hW4]; exact b4.out)
      have OG := Lib.hid (show W4.ownsRow w2.heap.size 28 1 (.slice (some ⟨g, 0, none⟩) next.length cap) next.length (vs.set x (.slice (some ⟨gg, 0, none⟩) ((succs next x).length + 1) cap2)) by
        rw [hW4]
        have h := pw_own_below HOWN.out bV4
        have hs := (h.stored x (.slice (some ⟨gg, 0, none⟩) ((succs next x).length + 1) cap2)).1
        simpa using hs)
      have OR := Lib.hid (show W4.ownsRow w3.heap.size 3 1 (.slice (some ⟨gg, 0, none⟩) ((succs next x).length + 1) cap2) ((succs next x).length + 1) (nums .i64 (succs next x ++ [(y : Int)])) by
        rw [hW4]
        refine own_setCell O2.out ?_ _
        intro e
        have e' : g = gg := by simpa [Value.ownBlock] using e
        have := HGL.out
        have := HGG.out
        omega)
      have BW4 := Lib.hid (below_then HBW2.out HBW2.out.size B24.out)
      have B24W := Lib.hid (below_then HB2.out HB2.out.size B24.out)
      have HC4 := Lib.hid (show (Kd.slice 3 (Kd.int .i64)).C W4 (some ⟨g, 0, none⟩) (next.set x (succs next x ++ [(y : Int)])).length (next.set x (succs next x ++ [(y : Int)])) from by
        have hrow := row_of_own OR.out (by simp)
        have hs := (HV.out.below B24.out).set x (succs next x ++ [(y : Int)]) (some ⟨gg, 0, none⟩) cap2 hrow.2 hrow.1
        refine Heads.C (vs := vs.set x (.slice (some ⟨gg, 0, none⟩) ((succs next x).length + 1) cap2)) (by simpa using hs) ?_ (by simp only [List.length_set]; omega)
        intro j v hj
        have hjl := (List.getElem?_eq_some_iff.1 hj).1
        rw [OG.out.cellAt j (by simp only [List.length_set, HV.out.len] at hjl; omega)]
        exact hj)
      clear OR OG O2 O1 OE GB HOWN B24 b4 hW4 hcell2 hfz2 hSf HRW HC03 HV3 HV HCS HGL HGG HFZ HCE HCXY HCX cx3 cy3 hcx3
      go_wp2_with fail
      refine (reach_any W4 next (some ad) c hc (Kd.C_below HC.out BW4.out) hsz).mono ?_
      rintro e w5 ⟨r1, rfl, hR1, hB5⟩
      obtain ⟨A1, c1, rfl, hcell1⟩ := bool_cell hR1
      rw [reachF_len] at hcell1 ⊢
      obtain ⟨ad1, rfl, _⟩ := hcell1 x gx
      have HB5 := Lib.hid (below_then BW4.out BW4.out.size hB5)
      have HB45 := Lib.hid hB5
      have hr5 := reach_any w5 (next.set x (succs next x ++ [(y : Int)])) (some ⟨g, 0, none⟩) cap (by rw [List.length_set]; exact gcap) (Kd.C_below HC4.out hB5) (by simp only [List.length_set]; omega)
      rw [List.length_set] at hr5
      have HR5 := Lib.hid hr5
      have HC5 := Lib.hid (Kd.C_below HC4.out hB5)
      have HCL1 := Lib.hid hcell1
      clear hR1 hcell1 hB5 hr5 HC4
      go_wp2_with fail
      refine HR5.out.mono ?_
      rintro e w6 ⟨r2, rfl, hR2, hB6⟩
      obtain ⟨A2, c2, rfl, hcell2⟩ := bool_cell hR2
      rw [reachF_len, List.length_set] at hcell2 ⊢
      obtain ⟨ad2, rfl, _⟩ := hcell2 x gx
      have HB6 := Lib.hid (below_then HB5.out HB5.out.size hB6)
      have HC6 := Lib.hid (Kd.C_below HC5.out hB6)
      have HCL2 := Lib.hid hcell2
      have HCL16 := Lib.hid (show ∀ i, i < next.length → ∃ ad', some ad1 = some ad' ∧ w6.cell? (ad'.add i) = some (.bool ((reachF next).getD i false)) from fun i hi => by
        obtain ⟨ad', e, h⟩ := HCL1.out i hi
        exact ⟨ad', e, pw_cell_below hB6 h⟩)
      have HBX0 := Lib.hid (below_then (below_then B24W.out B24W.out.size HB45.out) (below_then B24W.out B24W.out.size HB45.out).size hB6)
      clear hR2 hcell2 hB6 HR5 HC5 HCL1
      go_wp2_with fail
      go_loop [11] (fun vi => ∃ i : Nat, i ≤ next.length ∧ vi = .int .i64 i) (fun vi => next.length - (intOf vi).toNat)
      case atStart => exact ⟨0, Nat.zero_le _, rfl⟩
      case round =>
        obtain ⟨i, hi, rfl⟩ := hrel
        by_cases hlt : i < next.length
        · obtain ⟨ai, hai⟩ : ∃ r, (reachF next).getD i false = r := ⟨_, rfl⟩
          obtain ⟨bi, hbi⟩ : ∃ r, (reachF (next.set x (succs next x ++ [(y : Int)]))).getD i false = r := ⟨_, rfl⟩
          have hab : ai = true → bi = true := by rw [← hai, ← hbi]; exact HLAW.out.1 i
          obtain ⟨ad1', e1, ci1⟩ := HCL16.out i hlt
          cases e1
          obtain ⟨ad2', e2, ci2⟩ := HCL2.out i hlt
          cases e2
          rw [hai] at ci1
          rw [hbi] at ci2
          clear hai hbi
          have i0 : (0 : Int) ≤ i := by omega
          have i1 : (i : Int) < next.length := by omega
          have i2 : decide ((i : Int) < next.length) = true := decide_eq_true i1
          cases ai with
          | false =>
            clear hab
            go_wp2_with fail
            go_round
            case rel => exact ⟨i + 1, by omega, by go_num⟩
            case measure => simp [intOf]; omega
          | true =>
            obtain rfl := hab rfl
            clear hab
            go_wp2_with fail
            go_round
            case rel => exact ⟨i + 1, by omega, by go_num⟩
            case measure => simp [intOf]; omega
        · obtain rfl : i = next.length := by omega
          have i2 : decide ((next.length : Int) < next.length) = false := decide_eq_false (by omega)
          obtain ⟨sx, sy, sp, sq⟩ := HCL.out w6 HBX0.out
          obtain ⟨aq, haq⟩ : ∃ r, (reachF next).getD q false = r := ⟨_, rfl⟩
          obtain ⟨m1, hm1⟩ : ∃ r, mustF (next.set x (succs next x ++ [(y : Int)])) p q = r := ⟨_, rfl⟩
          obtain ⟨m2, hm2⟩ : ∃ r, mustF next p q = r := ⟨_, rfl⟩
          have hl := HLAW.out.2
          rw [haq, hm1, hm2] at hl
          obtain ⟨ad1', e1, ci1⟩ := HCL16.out q gq
          cases e1
          rw [haq] at ci1
          have HM1 := Lib.hid hm1
          have HM2 := Lib.hid hm2
          have HL := Lib.hid hl
          clear haq hm1 hm2 hl hlt hi sx sy
          cases aq with
          | false =>
            go_wp2_with fail
            go_ret
            exact ⟨rfl, HB6.out⟩
          | true =>
            have hr7 := must_any w6 (next.set x (succs next x ++ [(y : Int)])) (some ⟨g, 0, none⟩) cap (by rw [List.length_set]; exact gcap) HC6.out (by simp only [List.length_set]; omega) p q
            rw [List.length_set, HM1.out] at hr7
            have HR7 := Lib.hid hr7
            clear hr7
            cases m1 with
            | false =>
              go_wp2_with fail
              refine HR7.out.mono ?_
              rintro e w7 ⟨rfl, hB7⟩
              have HB7 := Lib.hid (below_then HB6.out HB6.out.size hB7)
              clear hB7
              go_wp2_with fail
              go_ret
              exact ⟨rfl, HB7.out⟩
            | true =>
              obtain rfl := HL.out rfl rfl
              go_wp2_with fail
              refine HR7.out.mono ?_
              rintro e w7 ⟨rfl, hB7⟩
              have HB7 := Lib.hid (below_then HB6.out HB6.out.size hB7)
              clear hB7
              go_wp2_with fail
              refine (must_any w7 next (some ad) c hc (Kd.C_below HC.out HB7.out) hsz p q).mono ?_
              rw [HM2.out]
              rintro e w8 ⟨rfl, hB8⟩
              have HB8 := Lib.hid (below_then HB7.out HB7.out.size hB8)
              clear hB8
              go_wp2_with fail
              go_ret
              exact ⟨rfl, HB8.out⟩
  · -- the one first
    go_simp
    obtain ⟨V1, hV⟩ : ∃ V, V = (w3.alloc (.cells #[.int .i64 y] 3)).drew := ⟨_, rfl⟩
    rw [← hV]
    have bV1 : Below w3.heap.size w3 V1 := by rw [hV]; exact below_drew ((Below.refl w3.heap.size w3).alloc (Nat.le_refl _) _)
    have kV1 : Below w3.heap.size w3 V1 := by rw [hV]; exact below_drew ((Below.refl _ _).alloc (Nat.le_refl _) _)
    have gB : V1.heap[w3.heap.size]? = some (.cells #[.int .i64 y] 3 (0, 0)) := by rw [hV]; exact heap_alloc_new w3 _
    have zV1 : V1.heap.size = w3.heap.size + 1 := by rw [hV]; simp
    have GB := Lib.hid gB
    have ZV1 := Lib.hid zV1
    clear hV gB zV1
    refine hK.out _ _ (HS2.out V1 (below_then HB23.out HB23.out.size bV1)) (fun hSeV1 => ?_)
    clear hK K
    (try simp only [List.getElem_toArray, List.getElem_cons_succ, List.getElem_cons_zero, Act.put, List.setIfInBounds_toArray, List.set_cons_zero, List.set_cons_succ])
    refine wpAnyH_ready (rs := [3]) (by kernel_rfl) (by simp) ?_
    refine AllReadyH.cons rfl (fun K hK => ?_) AllReadyH.nil
    go_simp
    obtain ⟨V2, hV⟩ : ∃ V, V = V1.alloc (.cells #[] 3) := ⟨_, rfl⟩
    rw [← hV]
    have bV2 : Below w3.heap.size w3 V2 := by rw [hV]; exact bV1.alloc bV1.size _
    have kV2 : Below V1.heap.size V1 V2 := by rw [hV]; exact (Below.refl _ _).alloc (Nat.le_refl _) _
    have oE : V2.ownsRow w3.heap.size 3 1 (.slice (some ⟨V1.heap.size, 0, none⟩) 0 0) 0 [] := by rw [hV]; exact World.ownsRow_lit (base := w3.heap.size) (e := 3) (size := 1) V1 #[] 0 bV1.size (by decide) rfl
    have zV2 : V2.heap.size = V1.heap.size + 1 := by rw [hV]; simp
    have OE := Lib.hid oE
    have ZV2 := Lib.hid zV2
    clear hV oE zV2
    refine hK.out _ _ (HS2.out V2 (below_then HB23.out HB23.out.size bV2)) (fun hSeV2 => ?_)
    clear hK K
    (try simp only [List.getElem_toArray, List.getElem_cons_succ, List.getElem_cons_zero, Act.put, List.setIfInBounds_toArray, List.set_cons_zero, List.set_cons_succ])
    have GB := Lib.hid (show V2.heap[w3.heap.size]? = some (.cells #[.int .i64 y] 3 (0, 0)) from by
      have := ZV1.out
      exact (kV2.block _ (by omega)).trans GB.out)
    refine wpAnyH_ready (rs := [9]) (by kernel_rfl) (by simp) ?_
    refine AllReadyH.cons rfl (fun K hK => ?_) AllReadyH.nil
    refine step_app rfl (.tmp 55) (.tmp 60) 28 rfl w3.heap.size 3 (.int .i64 0) 1 8 Try.underlying28 int_info rfl (by decide) (.slice (some ⟨V1.heap.size, 0, none⟩) 0 0) 0 [] rfl OE.out A0 (succs next x).length c0 (nums .i64 (succs next x)) rfl (by rw [nums_length]; omega) (row_news (HRW.out V2 bV2)).1 (row_news (HRW.out V2 bV2)).2 (nums_one _) (by simp only [maxLen]; omega) (by omega) bV2.size ?_
    intro v1 V3 o1 g1 at1
    rw [Nat.zero_add, List.nil_append] at o1
    have bV3 : Below w3.heap.size w3 V3 := bV2.grown g1 bV2.size (own_base OE.out)
    have O1 := Lib.hid o1
    have G1 := Lib.hid g1
    clear o1 g1 at1
    refine hK.out _ _ (HS2.out V3 (below_then HB23.out HB23.out.size bV3)) (fun hSeV3 => ?_)
    clear hK K
    (try simp only [List.getElem_toArray, List.getElem_cons_succ, List.getElem_cons_zero, Act.put, List.setIfInBounds_toArray, List.set_cons_zero, List.set_cons_succ])
    have GB := Lib.hid (blk_grown GB.out G1.out (by have := ZV1.out; simp [Value.ownBlock]; omega))
    refine wpAnyH_ready (rs := [14]) (by kernel_rfl) (by simp) ?_
    refine AllReadyH.cons rfl (fun K hK => ?_) AllReadyH.nil
    refine step_app rfl (.tmp 61) (.tmp 65) 28 rfl w3.heap.size 3 (.int .i64 0) 1 8 Try.underlying28 int_info rfl (by decide) v1 (succs next x).length (nums .i64 (succs next x)) rfl O1.out (some ⟨w3.heap.size, 0, none⟩) 1 1 [.int .i64 y] rfl rfl (fun h => by cases h) (fun ad1 e1 => by cases e1; exact World.news_of_block (cs := #[.int .i64 y]) GB.out) (by simp [Value.oneCell']) (by simp only [maxLen]; omega) (by omega) bV3.size ?_
    intro v2 V4 o2 g2 at2
    obtain ⟨gg, cap2, rfl, hgg, _⟩ := o2.form (by omega)
    have bV4 : Below w3.heap.size w3 V4 := bV3.grown g2 bV3.size (own_base O1.out)
    have o2' : V4.ownsRow w3.heap.size 3 1 (.slice (some ⟨gg, 0, none⟩) ((succs next x).length + 1) cap2) ((succs next x).length + 1) (nums .i64 (succs next x ++ [(y : Int)])) := by rw [nums_append]; exact o2
    have O2 := Lib.hid o2'
    have HGG := Lib.hid hgg
    clear o2 g2 at2 o2' hgg
    refine hK.out _ _ (HS2.out V4 (below_then HB23.out HB23.out.size bV4)) (fun hSeV4 => ?_)
    clear hK K
    (try simp only [List.getElem_toArray, List.getElem_cons_succ, List.getElem_cons_zero, Act.put, List.setIfInBounds_toArray, List.set_cons_zero, List.set_cons_succ])
    refine wpAnyH_take (i := 15) (v := ?_) rfl (by kernel_rfl) (by kernel_rfl) (by kernel_rfl) (fun _ _ _ h => h) (Or.inl ⟨by rfl, ?_⟩) (by assumption) ?_
    rotate_left
    · (intro w hSw; (try dsimp only at hSw); go_simp; try with_reducible rfl)
    (try simp only [List.getElem_toArray, List.getElem_cons_succ, List.getElem_cons_zero, Act.put, List.setIfInBounds_toArray, List.set_cons_zero, List.set_cons_succ])
    have hcell2 := pw_cell_below bV4 HCE.out
    have hfz2 : V4.frozen? ⟨g, x, none⟩ = false := (bV4.frozen (p := ⟨g, x, none⟩) HGL.out).trans HFZ.out
    refine wpAnyH_ready (rs := [16]) (by kernel_rfl) (by simp) ?_
    refine AllReadyH.cons rfl (fun K hK => ?_) AllReadyH.nil
    go_simp
    have b4 := Lib.hid ((below_then HB23.out HB23.out.size bV4).setCell (p := ⟨g, x, none⟩) HGA.out (.slice (some ⟨gg, 0, none⟩) ((succs next x).length + 1) cap2))
    refine hK.out _ _ (HS2.out _ b4.out) (fun hSf => ?_)
    clear hK K
    (try simp only [List.getElem_toArray, List.getElem_cons_succ, List.getElem_cons_zero, Act.put, List.setIfInBounds_toArray, List.set_cons_zero, List.set_cons_succ])
    refine wpAnyH_done (by kernel_rfl) ?_ _
    obtain ⟨W4, hW4⟩ : ∃ W4, W4 = V4.setCell ⟨g, x, none⟩ (.slice (some ⟨gg, 0, none⟩) ((succs next x).length + 1) cap2) := ⟨_, rfl⟩
    rw [← hW4]
    have B24 := Lib.hid (show Below w2.heap.size w2 W4 by rw [hW4]; exact b4.out)
    have OG := Lib.hid (show W4.ownsRow w2.heap.size 28 1 (.slice (some ⟨g, 0, none⟩) next.length cap) next.length (vs.set x (.slice (some ⟨gg, 0, none⟩) ((succs next x).length + 1) cap2)) by
      rw [hW4]
      have h := pw_own_below HOWN.out bV4
      have hs := (h.stored x (.slice (some ⟨gg, 0, none⟩) ((succs next x).length + 1) cap2)).1
      simpa using hs)
    have OR := Lib.hid (show W4.ownsRow w3.heap.size 3 1 (.slice (some ⟨gg, 0, none⟩) ((succs next x).length + 1) cap2) ((succs next x).length + 1) (nums .i64 (succs next x ++ [(y : Int)])) by
      rw [hW4]
      refine own_setCell O2.out ?_ _
      intro e
      have e' : g = gg := by simpa [Value.ownBlock] using e
      have := HGL.out
      have := HGG.out
      omega)
    have BW4 := Lib.hid (below_then HBW2.out HBW2.out.size B24.out)
    have B24W := Lib.hid (below_then HB2.out HB2.out.size B24.out)
    have HC4 := Lib.hid (show (Kd.slice 3 (Kd.int .i64)).C W4 (some ⟨g, 0, none⟩) (next.set x (succs next x ++ [(y : Int)])).length (next.set x (succs next x ++ [(y : Int)])) from by
      have hrow := row_of_own OR.out (by simp)
      have hs := (HV.out.below B24.out).set x (succs next x ++ [(y : Int)]) (some ⟨gg, 0, none⟩) cap2 hrow.2 hrow.1
      refine Heads.C (vs := vs.set x (.slice (some ⟨gg, 0, none⟩) ((succs next x).length + 1) cap2)) (by simpa using hs) ?_ (by simp only [List.length_set]; omega)
      intro j v hj
      have hjl := (List.getElem?_eq_some_iff.1 hj).1
      rw [OG.out.cellAt j (by simp only [List.length_set, HV.out.len] at hjl; omega)]
      exact hj)
    clear OR OG O2 O1 OE GB HOWN B24 b4 hW4 hcell2 hfz2 hSf HRW HC03 HV3 HV HCS HGL HGG HFZ HCE HCXY HCX cx3 cy3 hcx3
    go_wp2_with fail
    refine (reach_any W4 next (some ad) c hc (Kd.C_below HC.out BW4.out) hsz).mono ?_
    rintro e w5 ⟨r1, rfl, hR1, hB5⟩
    obtain ⟨A1, c1, rfl, hcell1⟩ := bool_cell hR1
    rw [reachF_len] at hcell1 ⊢
    obtain ⟨ad1, rfl, _⟩ := hcell1 x gx
    have HB5 := Lib.hid (below_then BW4.out BW4.out.size hB5)
    have HB45 := Lib.hid hB5
    have hr5 := reach_any w5 (next.set x (succs next x ++ [(y : Int)])) (some ⟨g, 0, none⟩) cap (by rw [List.length_set]; exact gcap) (Kd.C_below HC4.out hB5) (by simp only [List.length_set]; omega)
    rw [List.length_set] at hr5
    have HR5 := Lib.hid hr5
    have HC5 := Lib.hid (Kd.C_below HC4.out hB5)
    have HCL1 := Lib.hid hcell1
    clear hR1 hcell1 hB5 hr5 HC4
    go_wp2_with fail
    refine HR5.out.mono ?_
    rintro e w6 ⟨r2, rfl, hR2, hB6⟩
    obtain ⟨A2, c2, rfl, hcell2⟩ := bool_cell hR2
    rw [reachF_len, List.length_set] at hcell2 ⊢
    obtain ⟨ad2, rfl, _⟩ := hcell2 x gx
    have HB6 := Lib.hid (below_then HB5.out HB5.out.size hB6)
    have HC6 := Lib.hid (Kd.C_below HC5.out hB6)
    have HCL2 := Lib.hid hcell2
    have HCL16 := Lib.hid (show ∀ i, i < next.length → ∃ ad', some ad1 = some ad' ∧ w6.cell? (ad'.add i) = some (.bool ((reachF next).getD i false)) from fun i hi => by
      obtain ⟨ad', e, h⟩ := HCL1.out i hi
      exact ⟨ad', e, pw_cell_below hB6 h⟩)
    have HBX0 := Lib.hid (below_then (below_then B24W.out B24W.out.size HB45.out) (below_then B24W.out B24W.out.size HB45.out).size hB6)
    clear hR2 hcell2 hB6 HR5 HC5 HCL1
    go_wp2_with fail
    go_loop [11] (fun vi => ∃ i : Nat, i ≤ next.length ∧ vi = .int .i64 i) (fun vi => next.length - (intOf vi).toNat)
    case atStart => exact ⟨0, Nat.zero_le _, rfl⟩
    case round =>
      obtain ⟨i, hi, rfl⟩ := hrel
      by_cases hlt : i < next.length
      · obtain ⟨ai, hai⟩ : ∃ r, (reachF next).getD i false = r := ⟨_, rfl⟩
        obtain ⟨bi, hbi⟩ : ∃ r, (reachF (next.set x (succs next x ++ [(y : Int)]))).getD i false = r := ⟨_, rfl⟩
        have hab : ai = true → bi = true := by rw [← hai, ← hbi]; exact HLAW.out.1 i
        obtain ⟨ad1', e1, ci1⟩ := HCL16.out i hlt
        cases e1
        obtain ⟨ad2', e2, ci2⟩ := HCL2.out i hlt
        cases e2
        rw [hai] at ci1
        rw [hbi] at ci2
        clear hai hbi
        have i0 : (0 : Int) ≤ i := by omega
        have i1 : (i : Int) < next.length := by omega
        have i2 : decide ((i : Int) < next.length) = true := decide_eq_true i1
        cases ai with
        | false =>
          clear hab
          go_wp2_with fail
          go_round
          case rel => exact ⟨i + 1, by omega, by go_num⟩
          case measure => simp [intOf]; omega
        | true =>
          obtain rfl := hab rfl
          clear hab
          go_wp2_with fail
          go_round
          case rel => exact ⟨i + 1, by omega, by go_num⟩
          case measure => simp [intOf]; omega
      · obtain rfl : i = next.length := by omega
        have i2 : decide ((next.length : Int) < next.length) = false := decide_eq_false (by omega)
        obtain ⟨sx, sy, sp, sq⟩ := HCL.out w6 HBX0.out
        obtain ⟨aq, haq⟩ : ∃ r, (reachF next).getD q false = r := ⟨_, rfl⟩
        obtain ⟨m1, hm1⟩ : ∃ r, mustF (next.set x (succs next x ++ [(y : Int)])) p q = r := ⟨_, rfl⟩
        obtain ⟨m2, hm2⟩ : ∃ r, mustF next p q = r := ⟨_, rfl⟩
        have hl := HLAW.out.2
        rw [haq, hm1, hm2] at hl
        obtain ⟨ad1', e1, ci1⟩ := HCL16.out q gq
        cases e1
        rw [haq] at ci1
        have HM1 := Lib.hid hm1
        have HM2 := Lib.hid hm2
        have HL := Lib.hid hl
        clear haq hm1 hm2 hl hlt hi sx sy
        cases aq with
        | false =>
          go_wp2_with fail
          go_ret
          exact ⟨rfl, HB6.out⟩
        | true =>
          have hr7 := must_any w6 (next.set x (succs next x ++ [(y : Int)])) (some ⟨g, 0, none⟩) cap (by rw [List.length_set]; exact gcap) HC6.out (by simp only [List.length_set]; omega) p q
          rw [List.length_set, HM1.out] at hr7
          have HR7 := Lib.hid hr7
          clear hr7
          cases m1 with
          | false =>
            go_wp2_with fail
            refine HR7.out.mono ?_
            rintro e w7 ⟨rfl, hB7⟩
            have HB7 := Lib.hid (below_then HB6.out HB6.out.size hB7)
            clear hB7
            go_wp2_with fail
            go_ret
            exact ⟨rfl, HB7.out⟩
          | true =>
            obtain rfl := HL.out rfl rfl
            go_wp2_with fail
            refine HR7.out.mono ?_
            rintro e w7 ⟨rfl, hB7⟩
            have HB7 := Lib.hid (below_then HB6.out HB6.out.size hB7)
            clear hB7
            go_wp2_with fail
            refine (must_any w7 next (some ad) c hc (Kd.C_below HC.out HB7.out) hsz p q).mono ?_
            rw [HM2.out]
            rintro e w8 ⟨rfl, hB8⟩
            have HB8 := Lib.hid (below_then HB7.out HB7.out.size hB8)
            clear hB8
            go_wp2_with fail
            go_ret
            exact ⟨rfl, HB8.out⟩

set_option maxHeartbeats 16000000 in
set_option maxRecDepth 100000 in
theorem flowMore_no (w : World) (next : List (List Int)) (A : Option Addr) (c : Nat) (hc : next.length ≤ c) (hC : (Kd.slice 3 (Kd.int .i64)).C w A next.length next) (hsz : next.length * 24 ≤ 140737488351232)
    (hlen : ∀ b, (succs next b).length * 8 ≤ 140737488351232) (x y p q : Nat) (hx : x ≤ 255) (hy : y ≤ 255) (hp : p ≤ 255) (hq : q ≤ 255) (k1 : Nat) (s : Bool) (hs : PFlowMust.seedcornref26_Small.f k1 next 60 250 = some s)
    (hno : s = false ∨ (s = true ∧ (next.length ≤ x ∨ (x < next.length ∧ (next.length ≤ y ∨ (y < next.length ∧ (next.length ≤ p ∨ (p < next.length ∧ next.length ≤ q)))))))) :
    Calls Try.prog 8 #[.slice A next.length c, .agg #[.int .u8 x, .int .u8 y], .agg #[.int .u8 p, .int .u8 q]] w (BoolPost w true) := by
  have HC := Lib.hid hC
  have HS := Aside0.mk hs
  obtain ⟨W0, hW0⟩ : ∃ W0, W0 = (w.alloc (.cells #[.int .u8 x, .int .u8 y] 32)).alloc (.cells #[.int .u8 p, .int .u8 q] 32) := ⟨_, rfl⟩
  have HW0 := Lib.hid (show Below w.heap.size w W0 by rw [hW0]; exact ((Below.refl _ _).alloc (Nat.le_refl _) _).alloc (by simp) _)
  have HCL := Lib.hid (show ∀ W : World, Below W0.heap.size W0 W → W.cell? ⟨w.heap.size, 0, none⟩ = some (.int .u8 x) ∧ W.cell? ⟨w.heap.size, 1, none⟩ = some (.int .u8 y) ∧ W.cell? ⟨w.heap.size + 1, 0, none⟩ = some (.int .u8 p) ∧ W.cell? ⟨w.heap.size + 1, 1, none⟩ = some (.int .u8 q) from by
    intro W hW
    have z : W0.heap.size = w.heap.size + 2 := by rw [hW0]; simp
    have h1 : W0.heap[w.heap.size + 1]? = some (.cells #[.int .u8 p, .int .u8 q] 32 (0, 0)) := by rw [hW0]; have := heap_alloc_new (w.alloc (.cells #[.int .u8 x, .int .u8 y] 32)) (.cells #[.int .u8 p, .int .u8 q] 32); simpa using this
    have h0 : W0.heap[w.heap.size]? = some (.cells #[.int .u8 x, .int .u8 y] 32 (0, 0)) := by
      rw [hW0]
      have hb := ((Below.refl (w.heap.size + 1) (w.alloc (.cells #[.int .u8 x, .int .u8 y] 32))).alloc (by simp) (.cells #[.int .u8 p, .int .u8 q] 32)).block w.heap.size (by omega)
      rw [hb]
      exact heap_alloc_new w _
    have g0 := (hW.block w.heap.size (by omega)).trans h0
    have g1 := (hW.block (w.heap.size + 1) (by omega)).trans h1
    exact ⟨cell_of_blk g0 0 _ rfl, cell_of_blk g0 1 _ rfl, cell_of_blk g1 0 _ rfl, cell_of_blk g1 1 _ rfl⟩)
  have HZ0 := Lib.hid (show W0.heap.size = w.heap.size + 2 by rw [hW0]; simp)
  have x0 : (0 : Int) ≤ x := by omega
  have x1 : (x : Int) ≤ 255 := by omega
  have y0 : (0 : Int) ≤ y := by omega
  have y1 : (y : Int) ≤ 255 := by omega
  have p0 : (0 : Int) ≤ p := by omega
  have p1 : (p : Int) ≤ 255 := by omega
  have q0 : (0 : Int) ≤ q := by omega
  have q1 : (q : Int) ≤ 255 := by omega
  clear hC hs hlen hx hy hp hq
  have HE0 := Lib.hid hW0
  clear hW0
  go_enter Try.func8, Try.ntmps8
  go_wp2_with fail
  rw [← HE0.out]
  refine (awake_any W0).mono ?_
  rintro e w1 ⟨rfl, hB1⟩
  have HB1 := Lib.hid hB1
  clear hB1
  go_wp2_with fail
  refine (PFlowMust.seedcornref26_Small.calls k1 A c next 60 250 s w1 (Kd.C_below HC.out (below_then HW0.out HW0.out.size HB1.out)) hc HS.out).mono ?_
  rintro e w2 ⟨rfl, ⟨n2, hn2⟩⟩
  have HB2 := Lib.hid (show Below W0.heap.size W0 w2 by rw [hn2]; exact pw_below_drewN HB1.out n2)
  clear hn2
  obtain ⟨cx, cy, cp, cq⟩ := HCL.out w2 HB2.out
  have HBW2 := Lib.hid (below_then HW0.out HW0.out.size HB2.out)
  rcases hno with rfl | ⟨rfl, g | ⟨gx, g | ⟨gy, g | ⟨gp, g⟩⟩⟩⟩
  · clear cx cy cp cq
    go_wp2_with fail
    go_ret
    exact ⟨rfl, HBW2.out⟩
  · have dx : decide ((next.length : Int) ≤ x) = true := decide_eq_true (by omega)
    have g' : (next.length : Int) ≤ x := by omega
    clear g 
    go_wp2_with fail
    go_ret
    exact ⟨rfl, HBW2.out⟩
  · have dx : decide ((next.length : Int) ≤ x) = false := decide_eq_false (by omega)
    have dy : decide ((next.length : Int) ≤ y) = true := decide_eq_true (by omega)
    have gx' : (x : Int) < next.length := by omega
    have g' : (next.length : Int) ≤ y := by omega
    clear g gx
    go_wp2_with fail
    go_ret
    exact ⟨rfl, HBW2.out⟩
  · have dx : decide ((next.length : Int) ≤ x) = false := decide_eq_false (by omega)
    have dy : decide ((next.length : Int) ≤ y) = false := decide_eq_false (by omega)
    have dp : decide ((next.length : Int) ≤ p) = true := decide_eq_true (by omega)
    have gx' : (x : Int) < next.length := by omega
    have gy' : (y : Int) < next.length := by omega
    have g' : (next.length : Int) ≤ p := by omega
    clear g gx gy
    go_wp2_with fail
    go_ret
    exact ⟨rfl, HBW2.out⟩
  · have dx : decide ((next.length : Int) ≤ x) = false := decide_eq_false (by omega)
    have dy : decide ((next.length : Int) ≤ y) = false := decide_eq_false (by omega)
    have dp : decide ((next.length : Int) ≤ p) = false := decide_eq_false (by omega)
    have dq : decide ((next.length : Int) ≤ q) = true := decide_eq_true (by omega)
    have gx' : (x : Int) < next.length := by omega
    have gy' : (y : Int) < next.length := by omega
    have gp' : (p : Int) < next.length := by omega
    have g' : (next.length : Int) ≤ q := by omega
    clear g gx gy gp
    go_wp2_with fail
    go_ret
    exact ⟨rfl, HBW2.out⟩

theorem flowMore_any (w : World) (next : List (List Int)) (A : Option Addr) (c : Nat) (hc : next.length ≤ c) (hC : (Kd.slice 3 (Kd.int .i64)).C w A next.length next) (hsz : next.length * 24 ≤ 140737488351232)
    (hlen : ∀ b, (succs next b).length * 8 ≤ 140737488351232) (x y p q : Nat) (hx : x ≤ 255) (hy : y ≤ 255) (hp : p ≤ 255) (hq : q ≤ 255) :
    Calls Try.prog 8 #[.slice A next.length c, .agg #[.int .u8 x, .int .u8 y], .agg #[.int .u8 p, .int .u8 q]] w (BoolPost w true) := by
  obtain ⟨s, k1, hs, hsm⟩ := small_any next 60 250 (by omega) (by omega) hlen hsz
  by_cases hg : s = true ∧ x < next.length ∧ y < next.length ∧ p < next.length ∧ q < next.length
  · obtain ⟨rfl, gx, gy, gp, gq⟩ := hg
    obtain ⟨h60, hl⟩ := hsm rfl
    exact flowMore_yes w next A c hc hC hsz hlen x y p q hx hy hp hq k1 hs (by omega) (fun b => by have := hl b; omega) gx gy gp gq
  · refine flowMore_no w next A c hc hC hsz hlen x y p q hx hy hp hq k1 s hs ?_
    cases s with
    | false => exact .inl rfl
    | true =>
      simp only [true_and] at hg
      right
      refine ⟨rfl, ?_⟩
      omega

theorem flowMore_row (W : World) {a0 : Option Addr} {len0 cap0 : Nat} (next : List (List Int)) (hK : (Kd.slice 28 (Kd.slice 3 (Kd.int .i64))).K W next (Value.slice a0 len0 cap0).cells.toList)
    (ok : next.length * 24 ≤ reachBytes ∧ ∀ x ∈ next, x.length * 8 ≤ reachBytes ∧ ∀ y ∈ x, (Lit.int .i64 y).wf = true) (l : List Int) (hl : l.length = 2) (okl : ∀ y ∈ l, (Lit.int .u8 y).wf = true) (m : List Int) (hm : m.length = 2) (okm : ∀ y ∈ m, (Lit.int .u8 y).wf = true) :
    Calls Try.prog 8 #[.slice a0 len0 cap0, .agg (l.map (Value.int .u8)).toArray, .agg (m.map (Value.int .u8)).toArray] W (BoolPost W true) := by
  obtain ⟨rfl, hc, hC, hsz, hlen⟩ := graph_in hK ok
  match l, hl, m, hm with
  | [x, y], _, [p, q], _ =>
    obtain ⟨x0, x1⟩ := u8_bounds (okl x (by simp))
    obtain ⟨y0, y1⟩ := u8_bounds (okl y (by simp))
    obtain ⟨p0, p1⟩ := u8_bounds (okm p (by simp))
    obtain ⟨q0, q1⟩ := u8_bounds (okm q (by simp))
    obtain ⟨x, rfl⟩ := Int.eq_ofNat_of_zero_le x0
    obtain ⟨y, rfl⟩ := Int.eq_ofNat_of_zero_le y0
    obtain ⟨p, rfl⟩ := Int.eq_ofNat_of_zero_le p0
    obtain ⟨q, rfl⟩ := Int.eq_ofNat_of_zero_le q0
    exact flowMore_any W next a0 cap0 hc hC hsz hlen x y p q (by omega) (by omega) (by omega) (by omega)
end Go.Proofs.Ytnlapancooecjaa
