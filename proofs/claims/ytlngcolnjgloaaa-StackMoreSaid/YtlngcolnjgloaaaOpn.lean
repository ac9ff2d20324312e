/- What comes in, by its type, reads as lists, structs, trees, numbers, strings. Conditions: none beyond the row's reach. -/
import Derived.Test.YtlngcolnjgloaaaWWords
import Derived.WalkKit
import Derived.ProofKit
import Derived.OpenShut
import Derived.ShutString
import Derived.ChangeOld
import Derived.SizedLaws
import Derived.Deep.Slices
namespace Go.Proofs.Ytlngcolnjgloaaa
set_option linter.unusedVariables false
set_option linter.unusedSimpArgs false
open Go.RowKit Go.Proofs.YtlngcolnjgloaaaW.PrintWords Go.Deep

/-- What is read with so much fuel at most. -/
def OpnAt (P : Program) (N : Nat) {α : Type} (t : TypeId) (d : Kd α) (ok : α → Prop) : Prop :=
  ∀ (H : Type) (enc : TypeId × Value → H) (W : World) (fuel : Nat) (cs : List Value) (x : DataW H × List MemPlace), fuel ≤ N → DataW.trod enc P W 0 (fun _ => true) true fuel t cs = some x → (∀ n ∈ x.1.weights P t, n ≤ reachBytes) → ∃ v, d.K W v cs ∧ ok v

theorem OpnAt.le {P : Program} {N M : Nat} {α : Type} {t : TypeId} {d : Kd α} {ok : α → Prop} (h : OpnAt P N t d ok) (hm : M ≤ N) : OpnAt P M t d ok :=
  fun H enc W fuel cs x hf => h H enc W fuel cs x (by omega)
theorem OpnAt.int {P : Program} {N : Nat} {t : TypeId} {k : IntKind} (ht : P.underlying t = some (.int k)) : OpnAt P N t (Kd.int k) (fun v => (Lit.int k v).wf = true) := by
  intro H enc W fuel cs x _ h _
  obtain ⟨n, rfl, rfl, hw⟩ := DataW.trod_int ht h
  exact ⟨n, rfl, hw⟩
theorem OpnAt.bool {P : Program} {N : Nat} {t : TypeId} (ht : P.underlying t = some .bool) : OpnAt P N t Kd.bool (fun _ => True) := by
  intro H enc W fuel cs x _ h _
  obtain ⟨n, rfl, rfl⟩ := DataW.trod_bool ht h
  exact ⟨n, rfl, trivial⟩

theorem list_of_lt {α : Type} {n : Nat} {p : Nat → α → Prop} (h : ∀ i, i < n → ∃ x, p i x) : ∃ l : List α, l.length = n ∧ ∀ (i : Nat) (x : α), l[i]? = some x → p i x := by
  induction n with
  | zero => exact ⟨[], rfl, fun i x hx => by simp at hx⟩
  | succ n ih =>
    obtain ⟨l, hl, hp⟩ := ih (fun i hi => h i (by omega))
    obtain ⟨x, hx⟩ := h n (by omega)
    refine ⟨l ++ [x], by simp [hl], ?_⟩
    intro i y hy
    rcases Nat.lt_or_ge i l.length with hi | hi
    · rw [List.getElem?_append_left hi] at hy
      exact hp i y hy
    · have hi' : i < (l ++ [x]).length := (List.getElem?_eq_some_iff.1 hy).1
      have : i = n := by simp at hi'; omega
      subst this
      rw [← hl] at hy hx ⊢
      simp at hy
      subst hy
      exact hx

theorem weights_all {H : Type} {P : Program} {e : TypeId} : ∀ {l : List (DataW H)} {d : DataW H}, d ∈ l → ∀ n ∈ d.weights P e, n ∈ DataW.weightsAll P e l
  | d0 :: l, d, hd, n, hn => by
    simp only [DataW.weightsAll, List.mem_append]
    rcases List.mem_cons.1 hd with rfl | hd
    · exact .inl hn
    · exact .inr (weights_all hd n hn)

theorem OpnAt.slice {P : Program} {N : Nat} {α : Type} {t e : TypeId} {d : Kd α} {ok : α → Prop} {bytes : Nat} (ht : P.underlying t = some (.slice e)) (he : P.cellsOf e = d.sz) (hb : P.bytesOf e = bytes) (h : OpnAt P N e d ok) :
    OpnAt P N t (Kd.slice e d) (fun xs => xs.length * bytes ≤ reachBytes ∧ ∀ x ∈ xs, ok x) := by
  intro H enc W fuel cs x hfu hx hw
  rcases DataW.trod_slice ht hx with ⟨rfl, rfl⟩ | ⟨a, len, cap, elems, rest, n, hn, rfl, rfl, hb0, hl, hm, hel, hE, hR, _⟩
  · exact ⟨[], ⟨none, 0, rfl, Nat.le_refl _, ⟨rfl, Nat.zero_le _, fun hh => absurd hh (by simp)⟩⟩, by simp, by simp⟩
  · have hws : ∀ y ∈ elems, ∀ q ∈ y.1.weights P e, q ≤ reachBytes := by
      intro y hy q hq
      refine hw q ?_
      simp only [DataW.weights, ht, List.mem_cons, List.mem_append]
      exact .inr (.inl (weights_all (List.mem_map.2 ⟨y, hy, rfl⟩) q hq))
    have hsz : len * bytes ≤ reachBytes := by
      have := hw (((elems.map (·.1)).length + (rest.map (·.1)).length) * P.bytesOf e) (by simp [DataW.weights, ht])
      rw [hb] at this
      simp only [List.length_map] at this
      refine Nat.le_trans (Nat.mul_le_mul_right _ ?_) this
      omega
    have each : ∀ i, i < len → ∃ v : α, (∃ c, W.cells? 0 (a.add (i * P.cellsOf e)) (P.cellsOf e) = some c ∧ d.K W v c) ∧ ok v := by
      intro i hi
      have hi' : i < elems.length := by omega
      have h1 := hE i hi
      rw [List.getElem?_eq_getElem hi'] at h1
      obtain ⟨c, hc, hr⟩ := Option.bind_eq_some_iff.1 h1
      obtain ⟨v, hv, hok⟩ := h H enc W n c _ (by omega) hr (hws _ (List.getElem_mem hi'))
      exact ⟨v, ⟨c, hc, hv⟩, hok⟩
    obtain ⟨l, hll, hp⟩ := list_of_lt each
    subst hll
    refine ⟨l, ⟨some a, cap, rfl, hl, ⟨rfl, by simp only [maxLen] at hm; omega, fun _ => ⟨a, rfl, ?_⟩⟩⟩, hsz, ?_⟩
    · intro j v hj
      obtain ⟨⟨c, hc, hv⟩, _⟩ := hp j v hj
      have hlen := d.K_len hv
      refine ⟨c, hlen, hv, ?_⟩
      intro i u hu
      obtain ⟨_, hlc, hcell⟩ := World.cells?_some hc
      have hi : i < c.length := (List.getElem?_eq_some_iff.1 hu).1
      have := hcell i (by omega)
      rw [Go.Deep.add_add, he] at this
      rw [this]
      exact hu
    · intro v hv
      obtain ⟨j, hj⟩ := List.getElem?_of_mem hv
      exact (hp j v hj).2

/-! ### structs, field by field -/
def OpnF (P : Program) (N : Nat) {α : Type} (fs : List Field) (off : Nat) (d : Kd α) (ok : α → Prop) : Prop :=
  ∀ (H : Type) (enc : TypeId × Value → H) (W : World) (fuel : Nat) (cs : List Value) (xs : List (DataW H × List MemPlace)), fuel ≤ N → cs.length = off + d.sz →
    (∀ (i : Nat) (f : Field), fs[i]? = some f → DataW.trod enc P W 0 (fun _ => true) true fuel f.type ((cs.drop f.offset).take (P.cellsOf f.type)) = xs[i]?) → xs.length = fs.length →
    (∀ n ∈ DataW.weightsEach P (fs.map (·.type)) (xs.map (·.1)), n ≤ reachBytes) → ∃ v, d.K W v (cs.drop off) ∧ ok v

theorem OpnF.last {P : Program} {N : Nat} {α : Type} {f : Field} {off : Nat} {d : Kd α} {ok : α → Prop} (ho : f.offset = off) (hc : P.cellsOf f.type = d.sz) (h : OpnAt P N f.type d ok) : OpnF P N [f] off d ok := by
  intro H enc W fuel cs xs hfu hl hx hlen hw
  match xs, hlen with
  | [y], _ =>
    have h0 := hx 0 f rfl
    rw [ho, hc, List.take_of_length_le (by rw [List.length_drop]; omega)] at h0
    exact h H enc W fuel _ y hfu h0 (fun n hn => hw n (by simp [DataW.weightsEach, hn]))

theorem OpnF.cons {P : Program} {N : Nat} {α β : Type} {f : Field} {fs : List Field} {off : Nat} {d : Kd α} {d' : Kd β} {ok : α → Prop} {ok' : β → Prop} (ho : f.offset = off) (hc : P.cellsOf f.type = d.sz) (h : OpnAt P N f.type d ok) (h' : OpnF P N fs (off + d.sz) d' ok') :
    OpnF P N (f :: fs) off (Kd.pair d d') (fun v => ok v.1 ∧ ok' v.2) := by
  intro H enc W fuel cs xs hfu hl hx hlen hw
  match xs, hlen with
  | y :: xs, hlen =>
    have h0 := hx 0 f rfl
    rw [ho, hc] at h0
    obtain ⟨v, hv, hok⟩ := h H enc W fuel _ y hfu h0 (fun n hn => hw n (by simp [DataW.weightsEach, hn]))
    obtain ⟨v', hv', hok'⟩ := h' H enc W fuel cs xs hfu (by rw [hl]; show off + (d.sz + d'.sz) = _; omega) (fun i g hg => hx (i + 1) g (by simpa using hg)) (by simpa using hlen) (fun n hn => hw n (by simp [DataW.weightsEach, hn]))
    refine ⟨(v, v'), ⟨_, _, ?_, hv, hv'⟩, hok, hok'⟩
    have e : cs.drop (off + d.sz) = (cs.drop off).drop d.sz := by rw [List.drop_drop]
    rw [e]
    exact (List.take_append_drop _ _).symm

theorem OpnAt.struct {P : Program} {N : Nat} {α β : Type} {t : TypeId} {fs : Array Field} {d : Kd α} {ok : α → Prop} (f : β → α) (g : α → β) (hg : ∀ x, f (g x) = x) (ht : P.underlying t = some (.struct fs)) (hc : P.cellsOf t = d.sz) (h : OpnF P N fs.toList 0 d ok) :
    OpnAt P (N + 1) t (Kd.iso d f) (fun v => ok (f v)) := by
  intro H enc W fuel cs x hfu hx hw
  obtain ⟨xs, n, hn, rfl, hl, hlen, hf⟩ := DataW.trod_struct ht hx
  obtain ⟨v, hv, hok⟩ := h H enc W n cs xs (by omega) (by rw [hl, hc]; omega) (fun i g hg => hf i g (by simpa using hg)) (by simpa using hlen) (fun q hq => hw q (by simpa [DataW.weights, ht] using hq))
  refine ⟨g v, ?_, by show ok (f (g v)); rw [hg]; exact hok⟩
  show d.K W (f (g v)) cs
  rw [hg]
  simpa using hv

theorem OpnAt.imp {P : Program} {N : Nat} {α : Type} {t : TypeId} {d : Kd α} {ok ok' : α → Prop} (h : OpnAt P N t d ok) (hi : ∀ v, ok v → ok' v) : OpnAt P N t d ok' := by
  intro H enc W fuel cs x hfu hx hw
  obtain ⟨v, hv, hok⟩ := h H enc W fuel cs x hfu hx hw
  exact ⟨v, hv, hi v hok⟩
/-- An array of whole numbers that came in. -/
theorem arr_in {H : Type} {enc : TypeId × Value → H} {P : Program} {W : World} {base : Nat} {spare : Nat → Bool} {held : Bool} {t e : TypeId} {n : Nat} {k : IntKind} {fuel : Nat} {cs : List Value} {x : DataW H × List MemPlace} (ht : P.underlying t = some (.array n e)) (he : P.underlying e = some (.int k)) (ce : P.cellsOf e = 1) (ct : P.cellsOf t = n)
    (h : DataW.trod enc P W base spare held fuel t cs = some x) : ∃ l : List Int, l.length = n ∧ cs = l.map (Value.int k) ∧ ∀ y ∈ l, (Lit.int k y).wf = true := by
  obtain ⟨xs, m, rfl, rfl, hl, hxl, hel⟩ := DataW.trod_array ht h
  rw [ct] at hl
  have each : ∀ i, i < n → ∃ y : Int, cs[i]? = some (.int k y) ∧ (Lit.int k y).wf = true := by
    intro i hi
    have h1 := hel i hi
    rw [List.getElem?_eq_getElem (by omega)] at h1
    obtain ⟨y, hy, _, hw⟩ := DataW.trod_int he h1
    refine ⟨y, ?_, hw⟩
    rw [ce, Nat.mul_one, List.drop_eq_getElem_cons (by omega)] at hy
    simp only [List.take_succ_cons, List.take_zero, List.cons.injEq, and_true] at hy
    rw [List.getElem?_eq_getElem (by omega), hy]
  obtain ⟨l, hll, hp⟩ := list_of_lt each
  refine ⟨l, hll, ?_, ?_⟩
  · apply List.ext_getElem?
    intro i
    by_cases hi : i < n
    · have := hp i l[i] (List.getElem?_eq_getElem (by omega))
      rw [this.1, List.getElem?_map, List.getElem?_eq_getElem (by omega)]
      rfl
    · rw [List.getElem?_eq_none (by omega), List.getElem?_eq_none (by simp; omega)]
  · intro y hy
    obtain ⟨i, hi⟩ := List.getElem?_of_mem hy
    exact (hp i y hi).2
theorem agg_of_cells {v : Value} {cs : List Value} (h : v.cells.toList = cs) (hl : cs.length ≠ 1) : v = .agg cs.toArray := by
  cases v with
  | agg c => simp only [Value.cells] at h; subst h; rfl
  | _ => exfalso; apply hl; rw [← h]; rfl
end Go.Proofs.Ytlngcolnjgloaaa
