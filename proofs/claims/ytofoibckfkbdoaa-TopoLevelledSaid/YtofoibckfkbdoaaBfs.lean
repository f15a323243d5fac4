/- plain: to which pairs lead -/
import Derived.Test.YtofoibckfkbdoaaKahn
namespace Go.Proofs.Ytofoibckfkbdoaa

abbrev Leads (E : List (Nat × Nat)) : Nat → Nat → Prop := Relation.TransGen fun a b => (a, b) ∈ E
def unseen (n : Nat) (s : Nat → Bool) : Nat := ((List.range n).filter fun k => !s k).length
def see (s : Nat → Bool) (k : Nat) : Nat → Bool := fun x => if x = k then true else s x

theorem unseen_see {n k : Nat} {s : Nat → Bool} (hk : k < n) (hs : s k = false) : unseen n (see s k) + 1 = unseen n s := by
  unfold unseen
  have h1 : ∀ m, k < m → (((List.range m).filter fun x => !see s k x).length + 1 = ((List.range m).filter fun x => !s x).length) := by
    intro m
    induction m with
    | zero => intro h; omega
    | succ m ih =>
      intro hm
      rw [List.range_succ, List.filter_append, List.filter_append, List.length_append, List.length_append]
      by_cases e : k = m
      · subst e
        have h0 : ((List.range k).filter fun x => !see s k x) = (List.range k).filter fun x => !s x := by
          apply List.filter_congr
          intro x hx
          have := List.mem_range.1 hx
          simp [see, show x ≠ k from by omega]
        rw [h0]
        simp [see, hs]
      · have := ih (by omega)
        have h2 : ([m].filter fun x => !see s k x) = [m].filter fun x => !s x := by
          simp [List.filter_cons, see, Ne.symm e]
        rw [h2]
        omega
  exact h1 n hk
theorem unseen_le (n : Nat) (s : Nat → Bool) : unseen n s ≤ n := by
  unfold unseen
  have := List.length_filter_le (fun k => !s k) (List.range n)
  rwa [List.length_range] at this

structure BInv (n : Nat) (E : List (Nat × Nat)) (f : Nat) (todo : List Nat) (s : Nat → Bool) (m : Nat) : Prop where
  lt : ∀ x ∈ todo, x < n
  todoR : ∀ x ∈ todo, x = f ∨ Leads E f x
  seenR : ∀ k, s k = true → k < n ∧ Leads E f k
  clos : ∀ x, (x = f ∨ s x = true) → x ∈ todo ∨ ∀ y, (x, y) ∈ E → s y = true
  meas : todo.length + unseen n s ≤ m

structure BIn (n : Nat) (E : List (Nat × Nat)) (f i j : Nat) (todo : List Nat) (s : Nat → Bool) (m : Nat) : Prop where
  lt : ∀ x ∈ todo, x < n
  todoR : ∀ x ∈ todo, x = f ∨ Leads E f x
  iR : i = f ∨ Leads E f i
  seenR : ∀ k, s k = true → k < n ∧ Leads E f k
  clos : ∀ x, (x = f ∨ s x = true) → x ∈ todo ∨ x = i ∨ ∀ y, (x, y) ∈ E → s y = true
  done : ∀ y ∈ (outs E i).take j, s y = true
  meas : todo.length + unseen n s ≤ m

theorem BInv.start {n f : Nat} {E : List (Nat × Nat)} (hf : f < n) : BInv n E f [f] (fun _ => false) (n + 1) :=
  ⟨by simp [hf], by simp, by simp, by simp, by have := unseen_le n (fun _ => false); simp; omega⟩
theorem BInv.pop {n f i m : Nat} {E : List (Nat × Nat)} {todo : List Nat} {s : Nat → Bool} (h : BInv n E f (i :: todo) s m) : ∃ m', m = m' + 1 ∧ BIn n E f i 0 todo s m' := by
  have hm := h.meas
  simp at hm
  refine ⟨m - 1, by omega, fun x hx => h.lt x (by simp [hx]), fun x hx => h.todoR x (by simp [hx]), h.todoR i (by simp), h.seenR, ?_, by simp, by omega⟩
  intro x hx
  rcases h.clos x hx with h1 | h1
  · rcases List.mem_cons.1 h1 with rfl | h1
    · exact .inr (.inl rfl)
    · exact .inl h1
  · exact .inr (.inr h1)
theorem BIn.skip {n f i j k m : Nat} {E : List (Nat × Nat)} {todo : List Nat} {s : Nat → Bool} (h : BIn n E f i j todo s m) (hk : (outs E i)[j]? = some k) (hs : s k = true) : BIn n E f i (j + 1) todo s m := by
  refine ⟨h.lt, h.todoR, h.iR, h.seenR, h.clos, ?_, h.meas⟩
  intro y hy
  have hlt : j < (outs E i).length := by
    rcases Nat.lt_or_ge j (outs E i).length with h' | h'
    · exact h'
    · rw [List.getElem?_eq_none h'] at hk; cases hk
  rw [List.take_succ_eq_append_getElem hlt] at hy
  rw [List.getElem?_eq_getElem hlt] at hk
  injection hk with hk
  rcases List.mem_append.1 hy with hy | hy
  · exact h.done y hy
  · simp at hy; rw [hy, hk]; exact hs
theorem BIn.leads {n f i j k m : Nat} {E : List (Nat × Nat)} {todo : List Nat} {s : Nat → Bool} (h : BIn n E f i j todo s m) (hk : (outs E i)[j]? = some k) : Leads E f k := by
  have he : (i, k) ∈ E := outs_mem.1 (List.mem_of_getElem? hk)
  rcases h.iR with rfl | hi
  · exact .single he
  · exact .tail hi he
theorem BIn.push {n f i j k m : Nat} {E : List (Nat × Nat)} {todo : List Nat} {s : Nat → Bool} (h : BIn n E f i j todo s m) (hk : (outs E i)[j]? = some k) (hkn : k < n) (hs : s k = false) : BIn n E f i (j + 1) (todo ++ [k]) (see s k) m := by
  have hl := h.leads hk
  have hmono : ∀ y, s y = true → see s k y = true := fun y hy => by unfold see; split <;> first | rfl | exact hy
  refine ⟨?_, ?_, h.iR, ?_, ?_, ?_, ?_⟩
  · intro x hx
    rcases List.mem_append.1 hx with hx | hx
    · exact h.lt x hx
    · simp at hx; rw [hx]; exact hkn
  · intro x hx
    rcases List.mem_append.1 hx with hx | hx
    · exact h.todoR x hx
    · simp at hx; rw [hx]; exact .inr hl
  · intro x hx
    unfold see at hx
    split at hx
    · rename_i e; rw [e]; exact ⟨hkn, hl⟩
    · exact h.seenR x hx
  · intro x hx
    by_cases e : x = k
    · exact .inl (by simp [e])
    · have : x = f ∨ s x = true := hx.imp id fun hh => by unfold see at hh; rw [if_neg e] at hh; exact hh
      rcases h.clos x this with h1 | h1 | h1
      · exact .inl (List.mem_append_left _ h1)
      · exact .inr (.inl h1)
      · exact .inr (.inr fun y hy => hmono y (h1 y hy))
  · intro y hy
    have hlt : j < (outs E i).length := by
      rcases Nat.lt_or_ge j (outs E i).length with h' | h'
      · exact h'
      · rw [List.getElem?_eq_none h'] at hk; cases hk
    rw [List.take_succ_eq_append_getElem hlt] at hy
    rw [List.getElem?_eq_getElem hlt] at hk
    injection hk with hk
    rcases List.mem_append.1 hy with hy | hy
    · exact hmono y (h.done y hy)
    · simp at hy; rw [hy, hk]; simp [see]
  · have := unseen_see hkn hs
    have := h.meas
    rw [List.length_append, List.length_singleton]
    omega
theorem BIn.finish {n f i j m : Nat} {E : List (Nat × Nat)} {todo : List Nat} {s : Nat → Bool} (h : BIn n E f i j todo s m) (hj : (outs E i).length ≤ j) : BInv n E f todo s m := by
  refine ⟨h.lt, h.todoR, h.seenR, ?_, h.meas⟩
  intro x hx
  rcases h.clos x hx with h1 | h1 | h1
  · exact .inl h1
  · subst h1
    exact .inr fun y hy => h.done y (by rw [List.take_of_length_le hj]; exact outs_mem.2 hy)
  · exact .inr h1
theorem BInv.spec {n f m : Nat} {E : List (Nat × Nat)} {s : Nat → Bool} (h : BInv n E f [] s m) (k : Nat) : s k = true ↔ Leads E f k := by
  refine ⟨fun hk => (h.seenR k hk).2, fun hl => ?_⟩
  induction hl with
  | single he => exact ((h.clos f (.inl rfl)).resolve_left (by simp)) _ he
  | tail _ he ih => exact ((h.clos _ (.inr ih)).resolve_left (by simp)) _ he

def seenTo (k : Nat) (s : Nat → Bool) : List Nat := (List.range k).filter fun x => s x
theorem seenTo_succ (k : Nat) (s : Nat → Bool) : seenTo (k + 1) s = if s k = true then seenTo k s ++ [k] else seenTo k s := by
  unfold seenTo
  rw [List.range_succ, List.filter_append]
  by_cases h : s k = true <;> simp [h]
theorem seenTo_len (k : Nat) (s : Nat → Bool) : (seenTo k s).length ≤ k := by
  unfold seenTo
  have := List.length_filter_le (fun x => s x) (List.range k)
  rwa [List.length_range] at this
end Go.Proofs.Ytofoibckfkbdoaa
