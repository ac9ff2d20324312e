/- What comes in, by its type, reads as lists, numbers, strings. Conditions: none beyond the row's reach. -/
import Derived.Test.YtnlapancooecjaaWWords
import Derived.WalkKit
import Derived.ProofKit
import Derived.OpenShut
import Derived.ShutString
import Derived.ChangeOld
import Derived.SizedLaws
import Derived.Deep.Slices
namespace Go.Proofs.Ytnlapancooecjaa
set_option linter.unusedVariables false
set_option linter.unusedSimpArgs false
open Go.RowKit Go.Proofs.YtnlapancooecjaaW.PrintWords Go.Deep

/-! ### what comes in, read as lists and numbers, type by type -/
def Opn (P : Program) {α : Type} (t : TypeId) (d : Kd α) (ok : α → Prop) : Prop :=
  ∀ (H : Type) (enc : TypeId × Value → H) (W : World) (fuel : Nat) (cs : List Value) (x : DataW H × List MemPlace), DataW.trod enc P W 0 (fun _ => true) true fuel t cs = some x → (∀ n ∈ x.1.weights P t, n ≤ reachBytes) → ∃ v, d.K W v cs ∧ ok v

theorem Opn.int {P : Program} {t : TypeId} {k : IntKind} (ht : P.underlying t = some (.int k)) : Opn P t (Kd.int k) (fun v => (Lit.int k v).wf = true) := by
  intro H enc W fuel cs x h _
  obtain ⟨n, rfl, rfl, hw⟩ := DataW.trod_int ht h
  exact ⟨n, rfl, hw⟩
theorem Opn.bool {P : Program} {t : TypeId} (ht : P.underlying t = some .bool) : Opn P t Kd.bool (fun _ => True) := by
  intro H enc W fuel cs x h _
  obtain ⟨n, rfl, rfl⟩ := DataW.trod_bool ht h
  exact ⟨n, rfl, trivial⟩
theorem Opn.string {P : Program} {t : TypeId} (ht : P.underlying t = some .string) : Opn P t Kd.string (fun s => s.size ≤ reachBytes) := by
  intro H enc W fuel cs x h hw
  obtain ⟨s, rfl, rfl, _⟩ := DataW.trod_string ht h
  refine ⟨s, rfl, ?_⟩
  have := hw s.data.toList.length (by simp [DataW.weights])
  simpa using this

theorem list_of_lt {α : Type} {n : Nat} {p : Nat → α → Prop} (h : ∀ i, i < n → ∃ x, p i x) : ∃ l : List α, l.length = n ∧ ∀ (i : Nat) (x : α), l[i]? = some x → p i x := by
  induction n with
  | zero => exact ⟨[], rfl, fun i x hx => by simp at hx⟩
  | succ n ih =>
    obtain ⟨l, hl, hp⟩ := ih (fun i hi => h i (by omega))
    obtain ⟨x, hx⟩ := h n (by omega)
    refine ⟨l ++ [x], by simp [hl], ?_⟩
    intro i y hy
    rcases Nat.lt_or_ge i l.length with hi | hi
    · rw [List.getElem?_append_left hi] at hy
      exact hp i y hy
    · have hi' : i < (l ++ [x]).length := (List.getElem?_eq_some_iff.1 hy).1
      have : i = n := by simp at hi'; omega
      subst this
      rw [← hl] at hy hx ⊢
      simp at hy
      subst hy
      exact hx

theorem weights_all {H : Type} {P : Program} {e : TypeId} : ∀ {l : List (DataW H)} {d : DataW H}, d ∈ l → ∀ n ∈ d.weights P e, n ∈ DataW.weightsAll P e l
  | d0 :: l, d, hd, n, hn => by
    simp only [DataW.weightsAll, List.mem_append]
    rcases List.mem_cons.1 hd with rfl | hd
    · exact .inl hn
    · exact .inr (weights_all hd n hn)

theorem Opn.slice {P : Program} {α : Type} {t e : TypeId} {d : Kd α} {ok : α → Prop} {bytes : Nat} (ht : P.underlying t = some (.slice e)) (he : P.cellsOf e = d.sz) (hb : P.bytesOf e = bytes) (h : Opn P e d ok) :
    Opn P t (Kd.slice e d) (fun xs => xs.length * bytes ≤ reachBytes ∧ ∀ x ∈ xs, ok x) := by
  intro H enc W fuel cs x hx hw
  rcases open_slice ht hx with ⟨rfl, rfl⟩ | ⟨a, len, cap, m, n, D, Pl, rfl, hb0, hl, hm, hmm, rfl, hel⟩
  · exact ⟨[], ⟨none, 0, rfl, Nat.le_refl _, ⟨rfl, Nat.zero_le _, fun hh => absurd hh (by simp)⟩⟩, by simp, by simp⟩
  · have hmc : m = cap := by simpa using hmm
    have hws : ∀ i, i < len → ∀ q ∈ (D i).weights P e, q ≤ reachBytes := by
      intro i hi q hq
      refine hw q ?_
      simp only [DataW.weights, ht, List.mem_cons, List.mem_append]
      exact .inr (.inl (weights_all (List.mem_map.2 ⟨i, List.mem_range.2 hi, rfl⟩) q hq))
    have hsz : len * bytes ≤ reachBytes := by
      have := hw ((((List.range len).map D).length + ((List.range (m - len)).map fun j => D (len + j)).length) * P.bytesOf e) (by simp [DataW.weights, ht])
      rw [hb] at this
      simp only [List.length_map, List.length_range] at this
      refine Nat.le_trans (Nat.mul_le_mul_right _ ?_) this
      omega
    have each : ∀ i, i < len → ∃ v : α, (∃ c, W.cells? 0 (a.add (i * P.cellsOf e)) (P.cellsOf e) = some c ∧ d.K W v c) ∧ ok v := by
      intro i hi
      obtain ⟨c, hc, hr⟩ := hel i (by omega)
      obtain ⟨v, hv, hok⟩ := h H enc W n c _ hr (hws i hi)
      exact ⟨v, ⟨c, hc, hv⟩, hok⟩
    obtain ⟨l, hll, hp⟩ := list_of_lt each
    subst hll
    refine ⟨l, ⟨some a, cap, rfl, hl, ⟨rfl, by simp only [maxLen] at hm; omega, fun _ => ⟨a, rfl, ?_⟩⟩⟩, hsz, ?_⟩
    · intro j v hj
      obtain ⟨⟨c, hc, hv⟩, _⟩ := hp j v hj
      have hlen := d.K_len hv
      refine ⟨c, hlen, hv, ?_⟩
      intro i u hu
      obtain ⟨_, hlc, hcell⟩ := World.cells?_some hc
      have hi : i < c.length := (List.getElem?_eq_some_iff.1 hu).1
      have := hcell i (by omega)
      rw [Go.Deep.add_add, he] at this
      rw [this]
      exact hu
    · intro v hv
      obtain ⟨j, hj⟩ := List.getElem?_of_mem hv
      exact (hp j v hj).2
end Go.Proofs.Ytnlapancooecjaa
