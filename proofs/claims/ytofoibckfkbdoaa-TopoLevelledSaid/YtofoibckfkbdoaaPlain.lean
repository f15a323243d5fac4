/- plain: what an order tells of who leads to whom -/
import Derived.Test.YtofoibckfkbdoaaFixed
set_option linter.unusedSimpArgs false
set_option linter.unusedVariables false
namespace Go.Proofs.Ytofoibckfkbdoaa
open Go.RowKit Go.HG

theorem RunSpec.ahead {n : Nat} {E : List (Nat × Nat)} {ord : List Nat} {lv : List Int} (h : RunSpec n E ord lv) {a b : Nat} (hl : Leads E a b) : ∀ p : Nat, ord[p]? = some b → ∃ q, q < p ∧ ord[q]? = some a := by
  have one : ∀ (x y p : Nat), (x, y) ∈ E → ord[p]? = some y → ∃ q, q < p ∧ ord[q]? = some x := by
    intro x y p he hp
    have h1 := (h.pre p y hp).1.2.2 _ he rfl
    obtain ⟨q, hq⟩ := List.mem_iff_getElem?.1 h1
    rw [List.getElem?_take] at hq
    split at hq
    · rename_i hqp; exact ⟨q, hqp, hq⟩
    · simp at hq
  induction hl with
  | single he => intro p hp; exact one _ _ p he hp
  | tail _ he ih =>
    intro p hp
    obtain ⟨q, hq, hc⟩ := one _ _ p he hp
    obtain ⟨q2, hq2, ha⟩ := ih q hc
    exact ⟨q2, by omega, ha⟩
theorem RunSpec.behind {n : Nat} {E : List (Nat × Nat)} {ord : List Nat} {lv : List Int} (h : RunSpec n E ord lv) {a b : Nat} (hl : Leads E a b) (hb : b ∈ ord) : a ∈ ord := by
  obtain ⟨p, hp⟩ := List.mem_iff_getElem?.1 hb
  obtain ⟨q, _, hq⟩ := h.ahead hl p hp
  exact List.mem_iff_getElem?.2 ⟨q, hq⟩
theorem RunSpec.noRing {n : Nat} {E : List (Nat × Nat)} {ord : List Nat} {lv : List Int} (h : RunSpec n E ord lv) {a : Nat} (hl : Leads E a a) : a ∉ ord := by
  intro hb
  have key : ∀ p : Nat, ord[p]? = some a → False := by
    intro p
    induction p using Nat.strongRecOn with
    | ind p ih =>
      intro hp
      obtain ⟨q, hq, ha⟩ := h.ahead hl p hp
      exact ih q hq ha
  obtain ⟨p, hp⟩ := List.mem_iff_getElem?.1 hb
  exact key p hp
theorem filter_less {l : List Nat} {p q : Nat → Bool} (h : ∀ x, p x = true → q x = true) (x : Nat) (hx : x ∈ l) (hq : q x = true) (hp : p x = false) : (l.filter p).length < (l.filter q).length := by
  induction l with
  | nil => simp at hx
  | cons y l ih =>
    have hle : ∀ l : List Nat, (l.filter p).length ≤ (l.filter q).length := by
      intro l
      induction l with
      | nil => simp
      | cons z l ih2 =>
        by_cases e1 : p z = true
        · simp [List.filter_cons, e1, h z e1]; omega
        · by_cases e2 : q z = true <;> simp [List.filter_cons, e1, e2] <;> omega
    rcases List.mem_cons.1 hx with rfl | hx
    · have := hle l
      simp [List.filter_cons, hp, hq]; omega
    · have := ih hx
      by_cases e1 : p y = true
      · simp [List.filter_cons, e1, h y e1]; omega
      · by_cases e2 : q y = true <;> simp [List.filter_cons, e1, e2] <;> omega
theorem RunSpec.stuck {n : Nat} {E : List (Nat × Nat)} {ord : List Nat} {lv : List Int} (h : RunSpec n E ord lv) (hE : ∀ e ∈ E, e.1 < n ∧ e.2 < n) {k : Nat} (hk : k < n) :
    k ∉ ord ↔ Leads E k k ∨ ∃ i, i < n ∧ Leads E i i ∧ Leads E i k := by
  constructor
  · classical
    have key : ∀ m, ∀ k, k < n → ((List.range n).filter fun x => decide (Leads E x k)).length = m → k ∉ ord → Leads E k k ∨ ∃ i, i < n ∧ Leads E i i ∧ Leads E i k := by
      intro m
      induction m using Nat.strongRecOn with
      | ind m ih =>
        intro k hk hm hno
        have h1 := h.last k
        have : ∃ e ∈ E, e.2 = k ∧ e.1 ∉ ord := by
          apply Classical.byContradiction
          intro hc
          refine h1 ⟨hk, hno, fun e he hek => ?_⟩
          apply Classical.byContradiction
          intro hn
          exact hc ⟨e, he, hek, hn⟩
        obtain ⟨⟨p, k'⟩, he, rfl, hp⟩ := this
        simp only at hp hk hm hno ⊢
        have hpn := (hE _ he).1
        simp only at hpn
        by_cases hpp : Leads E p p
        · exact .inr ⟨p, hpn, hpp, .single he⟩
        · have hlt := filter_less (l := List.range n) (p := fun x => decide (Leads E x p)) (q := fun x => decide (Leads E x k')) (fun x hx => by simp only [decide_eq_true_eq] at hx ⊢; exact hx.tail he) p (List.mem_range.2 hpn) (by simp only [decide_eq_true_eq]; exact .single he) (by simpa using hpp)
          rcases ih _ (hm ▸ hlt) p hpn rfl hp with h2 | ⟨i, hi, h2, h3⟩
          · exact absurd h2 hpp
          · exact .inr ⟨i, hi, h2, h3.tail he⟩
    exact key _ k hk rfl
  · rintro (h1 | ⟨i, _, h1, h2⟩) hk
    · exact h.noRing h1 hk
    · exact h.noRing h1 (h.behind h2 hk)

theorem filter_get {n k : Nat} {p : Nat → Bool} (hk : k < n) (hp : p k = true) : ((List.range n).filter p)[((List.range k).filter p).length]? = some k := by
  obtain ⟨m, rfl⟩ : ∃ m, n = k + 1 + m := ⟨n - (k + 1), by omega⟩
  rw [List.range_add, List.range_succ, List.filter_append, List.filter_append, List.append_assoc, List.getElem?_append_right (Nat.le_refl _)]
  simp [hp]
theorem filter_le {n k : Nat} {p : Nat → Bool} (hk : k ≤ n) : ((List.range k).filter p).length ≤ ((List.range n).filter p).length := by
  obtain ⟨m, rfl⟩ : ∃ m, n = k + m := ⟨n - k, by omega⟩
  rw [List.range_add, List.filter_append, List.length_append]
  omega
theorem seenTo_get {n k : Nat} {s : Nat → Bool} (hk : k < n) (hp : s k = true) : (seenTo n s)[(seenTo k s).length]? = some k := filter_get hk hp
theorem leftTo_get {n k : Nat} {ord : List Nat} (hk : k < n) (hp : k ∉ ord) : (leftTo n ord)[(leftTo k ord).length]? = some k := filter_get hk (by simpa using hp)
end Go.Proofs.Ytofoibckfkbdoaa
