/- plain: pairs, who comes behind whom -/
import Derived.Test.YtofoibckfkbdoaaFam
import Derived.Test.YtofoibckfkbdoaaHeap
namespace Go.Proofs.Ytofoibckfkbdoaa
open Go Go.RowKit Go.HG

def pcells (ps : List (Int × Int)) : List Value := ps.flatMap fun p => [.int .i64 p.1, .int .i64 p.2]
theorem pcells_get {ps : List (Int × Int)} : ∀ {k : Nat} (h : k < ps.length), (pcells ps)[k * 2]? = some (.int .i64 (ps[k]).1) ∧ (pcells ps)[k * 2 + 1]? = some (.int .i64 (ps[k]).2) := by
  induction ps with
  | nil => intro k h; simp at h
  | cons p ps ih =>
    intro k h
    cases k with
    | zero => simp [pcells]
    | succ k =>
      have h' : k < ps.length := by simpa using h
      have := ih h'
      have e : pcells (p :: ps) = .int .i64 p.1 :: .int .i64 p.2 :: pcells ps := by simp [pcells]
      rw [e]
      simp only [Nat.add_mul, Nat.one_mul, List.getElem_cons_succ]
      exact this
theorem pcells_length (ps : List (Int × Int)) : (pcells ps).length = ps.length * 2 := by
  induction ps with
  | nil => rfl
  | cons p ps ih => simp [pcells] at ih ⊢; omega

def ok (n : Nat) (p : Int × Int) : Prop := 0 ≤ p.1 ∧ p.1 < n ∧ 0 ≤ p.2 ∧ p.2 < n
instance (n : Nat) (p : Int × Int) : Decidable (ok n p) := by unfold ok; infer_instance
/-- The pairs that count. -/
def edges (n : Nat) (ps : List (Int × Int)) : List (Nat × Nat) := ps.filterMap fun p => if ok n p then some (p.1.toNat, p.2.toNat) else none
theorem edges_snoc (n : Nat) (ps : List (Int × Int)) (p : Int × Int) : edges n (ps ++ [p]) = edges n ps ++ (if ok n p then [(p.1.toNat, p.2.toNat)] else []) := by
  unfold edges
  rw [List.filterMap_append]
  by_cases h : ok n p <;> simp [h]
theorem edges_lt {n : Nat} {ps : List (Int × Int)} {q : Nat × Nat} (h : q ∈ edges n ps) : q.1 < n ∧ q.2 < n := by
  unfold edges at h
  obtain ⟨p, _, hp⟩ := List.mem_filterMap.1 h
  by_cases ho : ok n p
  · simp [ho] at hp
    subst hp
    obtain ⟨a, b, c, d⟩ := ho
    simp; omega
  · simp [ho] at hp
theorem edges_length (n : Nat) (ps : List (Int × Int)) : (edges n ps).length ≤ ps.length := List.length_filterMap_le _ _

def nextOf (E : List (Nat × Nat)) (i : Nat) : List Int := (E.filter fun q => q.1 == i).map fun q => (q.2 : Int)
def aheadOf (n : Nat) (E : List (Nat × Nat)) : List Int := (List.range n).map fun k => ((E.countP fun q => q.2 == k : Nat) : Int)
theorem nextOf_len (E : List (Nat × Nat)) (i : Nat) : (nextOf E i).length ≤ E.length := by simp [nextOf]; exact List.length_filter_le _ _
theorem nextOf_snoc (E : List (Nat × Nat)) (a b i : Nat) : nextOf (E ++ [(a, b)]) i = if i = a then nextOf E i ++ [(b : Int)] else nextOf E i := by
  unfold nextOf
  rw [List.filter_append]
  by_cases h : i = a
  · subst h; simp
  · simp [h, Ne.symm h]
theorem aheadOf_length (n : Nat) (E : List (Nat × Nat)) : (aheadOf n E).length = n := by simp [aheadOf]
theorem aheadOf_get {n : Nat} (E : List (Nat × Nat)) {k : Nat} (h : k < n) : (aheadOf n E).getD k 0 = ((E.countP fun q => q.2 == k : Nat) : Int) := by simp [aheadOf, h]
theorem aheadOf_snoc (n : Nat) (E : List (Nat × Nat)) (a b : Nat) (hb : b < n) : aheadOf n (E ++ [(a, b)]) = (aheadOf n E).set b ((aheadOf n E).getD b 0 + 1) := by
  apply List.ext_getElem?
  intro k
  rw [List.getElem?_set, aheadOf_length, aheadOf_get E hb]
  by_cases hk : k < n
  · simp only [aheadOf, List.getElem?_map, List.getElem?_range hk, Option.map_some, List.countP_append]
    by_cases h : b = k
    · subst h; simp [hk]
    · simp [h]
  · rw [List.getElem?_eq_none (by simp [aheadOf]; omega)]
    by_cases h : b = k
    · omega
    · simp [h]; rw [aheadOf_length]; omega
theorem aheadOf_le (n : Nat) (E : List (Nat × Nat)) (k : Nat) : 0 ≤ (aheadOf n E).getD k 0 ∧ (aheadOf n E).getD k 0 ≤ E.length := by
  by_cases h : k < n
  · rw [aheadOf_get E h]
    have := List.countP_le_length (p := fun q : Nat × Nat => q.2 == k) (l := E)
    omega
  · rw [List.getD_eq_getElem?_getD, List.getElem?_eq_none (by rw [aheadOf_length]; omega)]
    simp

/-- Who comes behind whom, and how many are ahead of each, at block g: what the program's web is. -/
def rowsOf (vs : Nat → Value) (next : Nat → List Int) : Nat → HP := fun i => Row 3 1 (vs i) (next i).length (ints (next i))
def webList (g n : Nat) (next : Nat → List Int) (ahead : List Int) (v1 v2 : Value) (vs : Nat → Value) : List HP :=
  [Pt g (.cells #[v1, v2] 44 (0, 0)), Row 24 1 v1 n ((List.range n).map vs), Row 3 1 v2 n (ints ahead), Fam (rowsOf vs next) (List.range n)]
def Web (g n : Nat) (next : Nat → List Int) (ahead : List Int) : HP := fun H => ∃ (v1 v2 : Value) (vs : Nat → Value), SepL (webList g n next ahead v1 v2 vs) H
section
variable {w0 w : World} {K : Nat → Prop} {F : List HP} {g n : Nat} {next : Nat → List Int} {ahead : List Int}
theorem _root_.Go.HG.St.webOpen (h : St w0 K w (Web g n next ahead :: F)) : ∃ (v1 v2 : Value) (vs : Nat → Value), St w0 K w (webList g n next ahead v1 v2 vs ++ F) := by
  obtain ⟨x, h⟩ := h.open1 (X := Value × Value × (Nat → Value)) (Q := fun x => webList g n next ahead x.1 x.2.1 x.2.2) fun _ ⟨a, b, c, hh⟩ => ⟨(a, b, c), hh⟩
  exact ⟨x.1, x.2.1, x.2.2, h⟩
theorem _root_.Go.HG.St.webClose {v1 v2 : Value} {vs : Nat → Value} (h : St w0 K w (webList g n next ahead v1 v2 vs ++ F)) : St w0 K w (Web g n next ahead :: F) :=
  h.close1 (A := webList g n next ahead v1 v2 vs) fun _ hh => ⟨v1, v2, vs, hh⟩
end
end Go.Proofs.Ytofoibckfkbdoaa
