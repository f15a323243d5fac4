/- plain: to which pairs lead, all at once -/
import Derived.Test.YtofoibckfkbdoaaBfs
namespace Go.Proofs.Ytofoibckfkbdoaa

abbrev Mx := Nat → Nat → Bool
def wstep (M : Mx) (k : Nat) : Mx := fun a b => M a b || (M a k && M k b)
def wk (M : Mx) : Nat → Mx
  | 0 => M
  | k + 1 => wstep (wk M k) k
/-- In the midst of round k: all places ahead of (i, j) are done. -/
def wmid (M : Mx) (k i j : Nat) : Mx := fun a b => if a < i ∨ (a = i ∧ b < j) then wstep M k a b else M a b
theorem wmid_ik (M : Mx) (k i j a : Nat) : wmid M k i j a k = M a k := by
  unfold wmid wstep; split
  · cases M a k <;> simp
  · rfl
theorem wmid_kj (M : Mx) (k i j b : Nat) : wmid M k i j k b = M k b := by
  unfold wmid wstep; split
  · cases M k b <;> simp
  · rfl
theorem wmid_ij (M : Mx) (k i j : Nat) : wmid M k i j i j = M i j := by
  unfold wmid; rw [if_neg (by omega)]
theorem wmid_start (M : Mx) (k : Nat) : wmid M k 0 0 = M := by
  funext a b; unfold wmid; rw [if_neg (by omega)]
theorem wmid_row (M : Mx) (k i n : Nat) (a b : Nat) (hb : b < n) : wmid M k i n a b = wmid M k (i + 1) 0 a b := by
  unfold wmid
  by_cases h : a < i + 1
  · rw [if_pos (by omega), if_pos (.inl h)]
  · rw [if_neg (by omega), if_neg (by omega)]
theorem wmid_end (M : Mx) (k n : Nat) (a b : Nat) (ha : a < n) : wmid M k n 0 a b = wstep M k a b := by
  unfold wmid; rw [if_pos (.inl ha)]
theorem wmid_next (M : Mx) (k i j : Nat) (a b : Nat) : wmid M k i (j + 1) a b = if a = i ∧ b = j then wstep M k i j else wmid M k i j a b := by
  unfold wmid
  by_cases h : a = i ∧ b = j
  · obtain ⟨rfl, rfl⟩ := h
    rw [if_pos (by omega), if_pos ⟨rfl, rfl⟩]
  · rw [if_neg h]
    by_cases h2 : a < i ∨ (a = i ∧ b < j)
    · rw [if_pos (by omega), if_pos h2]
    · rw [if_neg (by omega), if_neg h2]

theorem wk_mono (M : Mx) (a b : Nat) (h : M a b = true) : ∀ k, wk M k a b = true
  | 0 => h
  | k + 1 => by simp [wk, wstep, wk_mono M a b h k]
theorem wk_trans (M : Mx) : ∀ k, ∀ m, m < k → ∀ a b, wk M k a m = true → wk M k m b = true → wk M k a b = true := by
  intro k
  induction k with
  | zero => intro m hm; omega
  | succ k ih =>
    intro m hm a b h1 h2
    simp only [wk, wstep, Bool.or_eq_true, Bool.and_eq_true] at h1 h2 ⊢
    by_cases e : m = k
    · subst e
      have h1' : wk M m a m = true := h1.elim id (·.1)
      have h2' : wk M m m b = true := h2.elim id (·.2)
      exact .inr ⟨h1', h2'⟩
    · have hm' : m < k := by omega
      rcases h1 with h1 | ⟨h1, h1'⟩ <;> rcases h2 with h2 | ⟨h2, h2'⟩
      · exact .inl (ih m hm' a b h1 h2)
      · exact .inr ⟨ih m hm' a k h1 h2, h2'⟩
      · exact .inr ⟨h1, ih m hm' k b h1' h2⟩
      · exact .inr ⟨h1, h2'⟩
theorem wk_sound {E : List (Nat × Nat)} {M : Mx} (hM : ∀ a b, M a b = true → (a, b) ∈ E) : ∀ k a b, wk M k a b = true → Leads E a b := by
  intro k
  induction k with
  | zero => intro a b h; exact .single (hM a b h)
  | succ k ih =>
    intro a b h
    simp only [wk, wstep, Bool.or_eq_true, Bool.and_eq_true] at h
    rcases h with h | ⟨h1, h2⟩
    · exact ih a b h
    · exact (ih a k h1).trans (ih k b h2)
theorem wk_spec {n : Nat} {E : List (Nat × Nat)} {M : Mx} (hM : ∀ a b, M a b = true ↔ (a, b) ∈ E) (hE : ∀ e ∈ E, e.1 < n ∧ e.2 < n) (a b : Nat) : wk M n a b = true ↔ Leads E a b := by
  refine ⟨wk_sound (fun a b h => (hM a b).1 h) n a b, fun h => ?_⟩
  induction h with
  | single he => exact wk_mono M _ _ ((hM _ _).2 he) n
  | @tail b c _ he ih => exact wk_trans M n b (hE _ he).1 a c ih (wk_mono M _ _ ((hM _ _).2 he) n)
end Go.Proofs.Ytofoibckfkbdoaa
