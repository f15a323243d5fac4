/- plain: a heap of numbers in a list -/
import Derived.Test.YtofoibckfkbdoaaRow
namespace Go.Proofs.Ytofoibckfkbdoaa
open Go Go.RowKit Go.HG

def ints (l : List Int) : List Value := l.map (Value.int .i64)
theorem ints_length (l : List Int) : (ints l).length = l.length := by simp [ints]
theorem ints_get {l : List Int} {k : Nat} (h : k < l.length) : (ints l)[k]? = some (.int .i64 (l.getD k 0)) := by
  simp [ints, h]
theorem ints_set (l : List Int) (k : Nat) (x : Int) : (ints l).set k (.int .i64 x) = ints (l.set k x) := by simp [ints, List.map_set]
theorem ints_append (l m : List Int) : ints (l ++ m) = ints l ++ ints m := by simp [ints]
theorem ints_take (l : List Int) (k : Nat) : (ints l).take k = ints (l.take k) := by simp [ints, List.map_take]

def sw (xs : List Int) (i j : Nat) : List Int := (xs.set i (xs.getD j 0)).set j (xs.getD i 0)
theorem sw_length (xs : List Int) (i j : Nat) : (sw xs i j).length = xs.length := by simp [sw]
theorem sw_get {xs : List Int} {i j : Nat} (hi : i < xs.length) (hj : j < xs.length) (k : Nat) :
    (sw xs i j).getD k 0 = if k = j then xs.getD i 0 else if k = i then xs.getD j 0 else xs.getD k 0 := by
  unfold sw
  simp only [List.getD_eq_getElem?_getD, List.getElem?_set, List.length_set]
  by_cases h1 : k = j
  · subst h1; simp [hj]
  · rw [if_neg (Ne.symm h1), if_neg h1]
    by_cases h2 : k = i
    · subst h2; simp [hi]
    · rw [if_neg (Ne.symm h2), if_neg h2]
theorem sw_perm {xs : List Int} {i j : Nat} (hi : i < xs.length) (hj : j < xs.length) : (sw xs i j).Perm xs := by
  rw [List.perm_iff_count]
  intro a
  unfold sw
  rw [List.count_set (by simpa using hj), List.count_set hi]
  simp only [List.getElem_set, List.getD_eq_getElem?_getD, List.getElem?_eq_getElem hi, List.getElem?_eq_getElem hj, Option.getD_some]
  have p1 : xs[i] = a → 0 < xs.count a := fun h => List.count_pos_iff.2 (h ▸ List.getElem_mem hi)
  have p2 : xs[j] = a → 0 < xs.count a := fun h => List.count_pos_iff.2 (h ▸ List.getElem_mem hj)
  by_cases hij : i = j
  · subst hij; simp
    by_cases h : xs[i] = a
    · have := p1 h; simp [h]; omega
    · simp [h]
  · simp only [hij, if_false]
    by_cases h1 : xs[i] = a <;> by_cases h2 : xs[j] = a
    · have := p1 h1; simp [h1, h2]; omega
    · have := p1 h1; simp [h1, h2]; omega
    · have := p2 h2; simp [h1, h2]
    · simp [h1, h2]

/-- A heap of the first n numbers. -/
def HeapOK (xs : List Int) (n : Nat) : Prop := ∀ k, 0 < k → k < n → xs.getD ((k - 1) / 2) 0 ≤ xs.getD k 0
def UpInv (xs : List Int) (n j : Nat) : Prop :=
  (∀ k, 0 < k → k < n → k ≠ j → xs.getD ((k - 1) / 2) 0 ≤ xs.getD k 0) ∧ (0 < j → ∀ k, 0 < k → k < n → (k - 1) / 2 = j → xs.getD ((j - 1) / 2) 0 ≤ xs.getD k 0)
def DownInv (xs : List Int) (n i : Nat) : Prop :=
  (∀ k, 0 < k → k < n → (k - 1) / 2 ≠ i → xs.getD ((k - 1) / 2) 0 ≤ xs.getD k 0) ∧ (0 < i → ∀ k, 0 < k → k < n → (k - 1) / 2 = i → xs.getD ((i - 1) / 2) 0 ≤ xs.getD k 0)

theorem up_done0 {xs : List Int} {n : Nat} (h : UpInv xs n 0) : HeapOK xs n := fun k h0 hk => h.1 k h0 hk (by omega)
theorem up_done {xs : List Int} {n j : Nat} (h : UpInv xs n j) (hge : ¬ xs.getD j 0 < xs.getD ((j - 1) / 2) 0) : HeapOK xs n := fun k h0 hk => by
  by_cases e : k = j
  · subst e; omega
  · exact h.1 k h0 hk e
theorem up_step {xs : List Int} {n j : Nat} (hj : 0 < j) (hn : j < n) (hl : n ≤ xs.length) (h : UpInv xs n j) (hlt : xs.getD j 0 < xs.getD ((j - 1) / 2) 0) : UpInv (sw xs ((j - 1) / 2) j) n ((j - 1) / 2) := by
  have hi : (j - 1) / 2 < xs.length := by omega
  have hj' : j < xs.length := by omega
  have hne : (j - 1) / 2 ≠ j := by omega
  obtain ⟨h1, h2⟩ := h
  have h2 := h2 hj
  refine ⟨fun k k0 kn kne => ?_, fun i0 k k0 kn kp => ?_⟩
  · rw [sw_get hi hj', sw_get hi hj']
    by_cases e1 : k = j
    · subst e1
      rw [if_neg hne, if_pos rfl, if_pos rfl]; omega
    · rw [if_neg e1, if_neg kne]
      by_cases e2 : (k - 1) / 2 = j
      · rw [if_pos e2]
        exact h2 k k0 kn e2
      · rw [if_neg e2]
        by_cases e3 : (k - 1) / 2 = (j - 1) / 2
        · rw [if_pos e3]
          have := h1 k k0 kn e1
          rw [e3] at this
          omega
        · rw [if_neg e3]
          exact h1 k k0 kn e1
  · rw [sw_get hi hj', sw_get hi hj']
    have hp : ((j - 1) / 2 - 1) / 2 ≠ j := by omega
    have hp2 : ((j - 1) / 2 - 1) / 2 ≠ (j - 1) / 2 := by omega
    rw [if_neg hp, if_neg hp2]
    have a1 := h1 ((j - 1) / 2) i0 (by omega) hne
    by_cases e1 : k = j
    · rw [if_pos e1]; exact a1
    · have e2 : k ≠ (j - 1) / 2 := by omega
      rw [if_neg e1, if_neg e2]
      have := h1 k k0 kn e1
      rw [kp] at this
      omega

theorem down_done1 {xs : List Int} {n i : Nat} (h : DownInv xs n i) (hge : n ≤ 2 * i + 1) : HeapOK xs n := fun k h0 hk => h.1 k h0 hk (by omega)
theorem down_done {xs : List Int} {n i j : Nat} (h : DownInv xs n i) (hj : ∀ k, 0 < k → k < n → (k - 1) / 2 = i → xs.getD j 0 ≤ xs.getD k 0) (hge : ¬ xs.getD j 0 < xs.getD i 0) : HeapOK xs n := fun k h0 hk => by
  by_cases e : (k - 1) / 2 = i
  · have := hj k h0 hk e; rw [e]; omega
  · exact h.1 k h0 hk e
theorem down_step {xs : List Int} {n i j : Nat} (hji : (j - 1) / 2 = i) (hj0 : 0 < j) (hn : j < n) (hl : n ≤ xs.length) (h : DownInv xs n i) (hj : ∀ k, 0 < k → k < n → (k - 1) / 2 = i → xs.getD j 0 ≤ xs.getD k 0)
    (hlt : xs.getD j 0 < xs.getD i 0) : DownInv (sw xs i j) n j := by
  have hi : i < xs.length := by omega
  have hj' : j < xs.length := by omega
  obtain ⟨h1, h2⟩ := h
  refine ⟨fun k k0 kn kne => ?_, fun _ k k0 kn kp => ?_⟩
  · rw [sw_get hi hj', sw_get hi hj', if_neg kne]
    by_cases e1 : (k - 1) / 2 = i
    · rw [if_pos e1]
      by_cases e2 : k = j
      · rw [if_pos e2]; omega
      · rw [if_neg e2, if_neg (by omega)]
        exact hj k k0 kn e1
    · rw [if_neg e1]
      have e3 : k ≠ j := by rintro rfl; exact e1 hji
      rw [if_neg e3]
      by_cases e2 : k = i
      · subst e2
        rw [if_pos rfl]
        exact h2 k0 j hj0 hn hji
      · rw [if_neg e2]
        exact h1 k k0 kn e1
  · rw [sw_get hi hj', sw_get hi hj', hji]
    have e1 : i ≠ j := by omega
    have e2 : k ≠ j := by omega
    have e3 : k ≠ i := by omega
    rw [if_neg e1, if_pos rfl, if_neg e2, if_neg e3]
    have := h1 k k0 kn (by omega)
    rw [kp] at this
    exact this

theorem heap_min {xs : List Int} {n : Nat} (h : HeapOK xs n) : ∀ k, k < n → xs.getD 0 0 ≤ xs.getD k 0 := by
  intro k
  induction k using Nat.strongRecOn with
  | _ k ih =>
    intro hk
    by_cases h0 : k = 0
    · subst h0; omega
    · have := ih ((k - 1) / 2) (by omega) (by omega)
      have := h k (by omega) hk
      omega

theorem heap_push {xs : List Int} (x : Int) (h : HeapOK xs xs.length) : UpInv (xs ++ [x]) (xs.length + 1) xs.length := by
  have g : ∀ k, k < xs.length → (xs ++ [x]).getD k 0 = xs.getD k 0 := fun k hk => by simp [List.getD_eq_getElem?_getD, List.getElem?_append_left hk]
  refine ⟨fun k k0 kn kne => ?_, fun h0 k k0 kn kp => ?_⟩
  · rw [g _ (by omega), g _ (by omega)]; exact h k k0 (by omega)
  · omega
end Go.Proofs.Ytofoibckfkbdoaa
