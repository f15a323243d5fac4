/- plain: the order in which numbers come, by a heap of those that may -/
import Derived.Test.YtofoibckfkbdoaaWeb
namespace Go.Proofs.Ytofoibckfkbdoaa

/-- k may come behind just those of 'pre'. -/
def Avail (n : Nat) (E : List (Nat × Nat)) (pre : List Nat) (k : Nat) : Prop := k < n ∧ k ∉ pre ∧ ∀ e ∈ E, e.2 = k → e.1 ∈ pre
def LeastIn (n : Nat) (E : List (Nat × Nat)) (pre : List Nat) (x : Nat) : Prop := Avail n E pre x ∧ ∀ k, Avail n E pre k → x ≤ k
/-- What an order and levels are. -/
structure RunSpec (n : Nat) (E : List (Nat × Nat)) (ord : List Nat) (lv : List Int) : Prop where
  nd : ord.Nodup
  lt : ∀ x ∈ ord, x < n
  pre : ∀ p x, ord[p]? = some x → LeastIn n E (ord.take p) x
  last : ∀ k, ¬ Avail n E ord k
  lvl : lv.length = n
  lv1 : ∀ e ∈ E, e.1 ∈ ord → lv.getD e.1 0 + 1 ≤ lv.getD e.2 0
  lv2 : ∀ k, k < n → 0 ≤ lv.getD k 0 ∧ (lv.getD k 0 = 0 ∨ ∃ e ∈ E, e.2 = k ∧ e.1 ∈ ord ∧ lv.getD k 0 = lv.getD e.1 0 + 1)
  lvb : ∀ p x : Nat, ord[p]? = some x → lv.getD x 0 ≤ (p : Int)

def outs (E : List (Nat × Nat)) (i : Nat) : List Nat := (E.filter fun e => e.1 == i).map (·.2)
theorem outs_mem {E : List (Nat × Nat)} {i k : Nat} : k ∈ outs E i ↔ (i, k) ∈ E := by
  unfold outs
  rw [List.mem_map]
  constructor
  · rintro ⟨e, he, rfl⟩
    obtain ⟨h1, h2⟩ := List.mem_filter.1 he
    have : e.1 = i := by simpa using h2
    rw [← this]; exact h1
  · intro h
    exact ⟨(i, k), List.mem_filter.2 ⟨h, by simp⟩, rfl⟩

structure KInv (n : Nat) (E : List (Nat × Nat)) (ord : List Nat) (ah lv : List Int) (M : List Nat) : Prop where
  nd : ord.Nodup
  lt : ∀ x ∈ ord, x < n
  pre : ∀ p x, ord[p]? = some x → LeastIn n E (ord.take p) x
  zero : ∀ e ∈ E, e.2 ∈ ord → e.1 ∈ ord
  ahl : ah.length = n
  lvl : lv.length = n
  ahc : ∀ k, k < n → ah.getD k 0 = (E.countP (fun e => e.2 == k && !ord.contains e.1) : Nat)
  mnd : M.Nodup
  mem : ∀ k, k ∈ M ↔ k < n ∧ k ∉ ord ∧ ah.getD k 0 = 0
  lv1 : ∀ e ∈ E, e.1 ∈ ord → lv.getD e.1 0 + 1 ≤ lv.getD e.2 0
  lv2 : ∀ k, k < n → 0 ≤ lv.getD k 0 ∧ (lv.getD k 0 = 0 ∨ ∃ e ∈ E, e.2 = k ∧ e.1 ∈ ord ∧ lv.getD k 0 = lv.getD e.1 0 + 1)
  lvb : ∀ p x : Nat, ord[p]? = some x → lv.getD x 0 ≤ (p : Int)
  lvc : ∀ k, k < n → lv.getD k 0 ≤ ord.length

/-- While number i, the last one of the order, is gone through: j of its pairs are done. -/
structure KIn (n : Nat) (E : List (Nat × Nat)) (ord : List Nat) (i j : Nat) (ah lv : List Int) (M : List Nat) : Prop where
  nd : ord.Nodup
  lt : ∀ x ∈ ord, x < n
  hi : i ∈ ord
  pre : ∀ p x, ord[p]? = some x → LeastIn n E (ord.take p) x
  zero : ∀ e ∈ E, e.2 ∈ ord → e.1 ∈ ord ∧ e.1 ≠ i
  ahl : ah.length = n
  lvl : lv.length = n
  ahc : ∀ k, k < n → ah.getD k 0 = ((E.countP (fun e => e.2 == k && !ord.contains e.1) + ((outs E i).drop j).count k : Nat) : Int)
  mnd : M.Nodup
  mem : ∀ k, k ∈ M ↔ k < n ∧ k ∉ ord ∧ ah.getD k 0 = 0
  lv1 : ∀ e ∈ E, e.1 ∈ ord → e.1 ≠ i → lv.getD e.1 0 + 1 ≤ lv.getD e.2 0
  lv1' : ∀ k ∈ (outs E i).take j, lv.getD i 0 + 1 ≤ lv.getD k 0
  lv2 : ∀ k, k < n → 0 ≤ lv.getD k 0 ∧ (lv.getD k 0 = 0 ∨ ∃ e ∈ E, e.2 = k ∧ e.1 ∈ ord ∧ lv.getD k 0 = lv.getD e.1 0 + 1)
  lvb : ∀ p x : Nat, ord[p]? = some x → lv.getD x 0 ≤ (p : Int)
  lvc : ∀ k, k < n → lv.getD k 0 ≤ ord.length

theorem getD_set {l : List Int} {i k : Nat} {x : Int} (hi : i < l.length) : (l.set i x).getD k 0 = if k = i then x else l.getD k 0 := by
  simp only [List.getD_eq_getElem?_getD, List.getElem?_set]
  by_cases h : k = i
  · subst h; simp [hi]
  · simp [h, Ne.symm h]

theorem countP_zero {E : List (Nat × Nat)} {ord : List Nat} {k : Nat} : E.countP (fun e => e.2 == k && !ord.contains e.1) = 0 ↔ ∀ e ∈ E, e.2 = k → e.1 ∈ ord := by
  rw [List.countP_eq_zero]
  constructor
  · intro h e he hk
    have := h e he
    simp [hk] at this
    exact this
  · intro h e he hc
    simp at hc
    exact hc.2 (h e he hc.1)

theorem KInv.avail {n : Nat} {E : List (Nat × Nat)} {ord : List Nat} {ah lv : List Int} {M : List Nat} (h : KInv n E ord ah lv M) (k : Nat) : k ∈ M ↔ Avail n E ord k := by
  rw [h.mem]
  constructor
  · rintro ⟨h1, h2, h3⟩
    rw [h.ahc k h1] at h3
    exact ⟨h1, h2, countP_zero.1 (by omega)⟩
  · rintro ⟨h1, h2, h3⟩
    refine ⟨h1, h2, ?_⟩
    rw [h.ahc k h1, countP_zero.2 h3]; rfl

theorem KInv.start (n : Nat) (E : List (Nat × Nat)) : KInv n E [] (aheadOf n E) (List.replicate n 0) ((List.range n).filter fun k => (aheadOf n E).getD k 0 == 0) := by
  have hr : ∀ k, (List.replicate n (0 : Int)).getD k 0 = 0 := fun k => by
    simp only [List.getD_eq_getElem?_getD, List.getElem?_replicate]; split <;> rfl
  refine ⟨List.nodup_nil, by simp, by simp, by simp, aheadOf_length n E, by simp, ?_, List.nodup_range.filter _, ?_, by simp, ?_, by simp, ?_⟩
  · intro k hk
    rw [aheadOf_get E hk]
    simp
  · intro k
    simp [List.mem_filter]
  · intro k hk
    rw [hr]; simp
  · intro k hk
    rw [hr]; simp

theorem countP_more {E : List (Nat × Nat)} {ord : List Nat} {m k : Nat} (hm : m ∉ ord) :
    E.countP (fun e => e.2 == k && !ord.contains e.1) = E.countP (fun e => e.2 == k && !(ord ++ [m]).contains e.1) + (outs E m).count k := by
  unfold outs
  induction E with
  | nil => simp
  | cons e E ih =>
    simp only [List.countP_cons, List.filter_cons, ih]
    by_cases h1 : e.1 = m
    · subst h1
      by_cases h2 : e.2 = k
      · subst h2; simp [hm]; omega
      · simp [h2]
    · by_cases h2 : e.2 = k
      · subst h2
        by_cases h3 : e.1 ∈ ord <;> simp [h1, h3] <;> omega
      · simp [h1, h2]

/-- The least that may come is taken. -/
theorem KInv.pop {n : Nat} {E : List (Nat × Nat)} {ord : List Nat} {ah lv : List Int} {M M' : List Nat} {m : Nat} (h : KInv n E ord ah lv M) (hM : (m :: M').Perm M) (hle : ∀ y ∈ M', m ≤ y) :
    KIn n E (ord ++ [m]) m 0 ah lv M' := by
  have hmM : m ∈ M := hM.mem_iff.1 (by simp)
  have hm := (h.mem m).1 hmM
  have hav := (h.avail m).1 hmM
  have hnd : (m :: M').Nodup := hM.nodup_iff.2 h.mnd
  have hleast : LeastIn n E ord m := ⟨hav, fun k hk => by
    have := hM.mem_iff.2 ((h.avail k).2 hk)
    rcases List.mem_cons.1 this with rfl | hk'
    · exact Nat.le_refl _
    · exact hle k hk'⟩
  have hnoself : ∀ e ∈ E, e.2 ∈ ord ++ [m] → e.1 ∈ ord := by
    intro e he h2
    rcases List.mem_append.1 h2 with h2 | h2
    · exact h.zero e he h2
    · exact hav.2.2 e he (by simpa using h2)
  refine ⟨?_, ?_, by simp, ?_, ?_, h.ahl, h.lvl, ?_, (List.nodup_cons.1 hnd).2, ?_, ?_, by simp, ?_, ?_, ?_⟩
  · rw [List.nodup_append]
    exact ⟨h.nd, by simp, by rintro a ha b hb rfl; simp at hb; subst hb; exact hm.2.1 ha⟩
  · intro x hx
    rcases List.mem_append.1 hx with hx | hx
    · exact h.lt x hx
    · simp at hx; subst hx; exact hm.1
  · intro p x hp
    rw [List.getElem?_append] at hp
    split at hp
    · rename_i hlt
      rw [List.take_append_of_le_length (by omega)]
      exact h.pre p x hp
    · rename_i hge
      have hp0 : p = ord.length := by
        rcases Nat.eq_or_lt_of_le (Nat.le_of_not_lt hge) with e | e
        · exact e.symm
        · rw [List.getElem?_eq_none (by simp; omega)] at hp; cases hp
      subst hp0
      simp at hp
      subst hp
      rw [List.take_left]
      exact hleast
  · intro e he h2
    refine ⟨List.mem_append_left _ (hnoself e he h2), ?_⟩
    rintro rfl
    exact hm.2.1 (hnoself e he h2)
  · intro k hk
    rw [h.ahc k hk, List.drop_zero, countP_more hm.2.1]
  · intro k
    constructor
    · intro hk
      have := (h.mem k).1 (hM.mem_iff.1 (List.mem_cons_of_mem _ hk))
      refine ⟨this.1, ?_, this.2.2⟩
      intro hc
      rcases List.mem_append.1 hc with hc | hc
      · exact this.2.1 hc
      · simp at hc; subst hc; exact (List.nodup_cons.1 hnd).1 hk
    · rintro ⟨h1, h2, h3⟩
      have h2' : k ∉ ord ∧ k ≠ m := ⟨fun hc => h2 (List.mem_append_left _ hc), fun hc => h2 (by simp [hc])⟩
      have := hM.mem_iff.2 ((h.mem k).2 ⟨h1, h2'.1, h3⟩)
      rcases List.mem_cons.1 this with e | hk'
      · exact absurd e h2'.2
      · exact hk'
  · intro e he h1 hne
    rcases List.mem_append.1 h1 with h1 | h1
    · exact h.lv1 e he h1
    · exact absurd (by simpa using h1) hne
  · intro k hk
    obtain ⟨h0, h1⟩ := h.lv2 k hk
    refine ⟨h0, h1.imp id ?_⟩
    rintro ⟨e, he, a, b, c⟩
    exact ⟨e, he, a, List.mem_append_left _ b, c⟩
  · intro p x hp
    rw [List.getElem?_append] at hp
    split at hp
    · exact h.lvb p x hp
    · rename_i hge
      have hp0 : p = ord.length := by
        rcases Nat.eq_or_lt_of_le (Nat.le_of_not_lt hge) with e | e
        · exact e.symm
        · rw [List.getElem?_eq_none (by simp; omega)] at hp; cases hp
      subst hp0
      simp at hp
      subst hp
      exact h.lvc _ hm.1
  · intro k hk
    have := h.lvc k hk
    rw [List.length_append, List.length_singleton]
    omega

theorem KIn.out {n : Nat} {E : List (Nat × Nat)} {ord : List Nat} {i j : Nat} {ah lv : List Int} {M : List Nat} (h : KIn n E ord i j ah lv M) {k : Nat} (hk : (outs E i)[j]? = some k) : k ∉ ord ∧ 1 ≤ ((outs E i).drop j).count k := by
  have hm : k ∈ outs E i := List.mem_of_getElem? hk
  refine ⟨fun hc => (h.zero (i, k) (outs_mem.1 hm) hc).2 rfl, ?_⟩
  have hlt : j < (outs E i).length := by
    rcases Nat.lt_or_ge j (outs E i).length with h' | h'
    · exact h'
    · rw [List.getElem?_eq_none h'] at hk; cases hk
  rw [List.drop_eq_getElem_cons hlt]
  rw [List.getElem?_eq_getElem hlt] at hk
  injection hk with hk
  rw [hk]
  simp

/-- One more pair of i's is done. -/
theorem KIn.step {n : Nat} {E : List (Nat × Nat)} {ord : List Nat} {i j : Nat} {ah lv : List Int} {M M' : List Nat} (h : KIn n E ord i j ah lv M) {k : Nat} (hk : (outs E i)[j]? = some k) (hkn : k < n)
    (hM : M'.Perm (if ah.getD k 0 - 1 = 0 then k :: M else M)) :
    KIn n E ord i (j + 1) (ah.set k (ah.getD k 0 - 1)) (lv.set k (max (lv.getD k 0) (lv.getD i 0 + 1))) M' := by
  obtain ⟨hko, hc1⟩ := h.out hk
  have hlt : j < (outs E i).length := by
    rcases Nat.lt_or_ge j (outs E i).length with h' | h'
    · exact h'
    · rw [List.getElem?_eq_none h'] at hk; cases hk
  have hkj : (outs E i)[j] = k := by rw [List.getElem?_eq_getElem hlt] at hk; injection hk
  have hdrop : (outs E i).drop j = k :: (outs E i).drop (j + 1) := by rw [List.drop_eq_getElem_cons hlt, hkj]
  have htake : (outs E i).take (j + 1) = (outs E i).take j ++ [k] := by rw [List.take_succ_eq_append_getElem hlt, hkj]
  have hka : k < ah.length := by rw [h.ahl]; exact hkn
  have hkl : k < lv.length := by rw [h.lvl]; exact hkn
  have hin : i < n := h.lt i h.hi
  have hik : i ≠ k := fun e => hko (e ▸ h.hi)
  have hah1 := h.ahc k hkn
  have hpos : 0 < ah.getD k 0 := by omega
  have hlvo : ∀ x ∈ ord, (lv.set k (max (lv.getD k 0) (lv.getD i 0 + 1))).getD x 0 = lv.getD x 0 := fun x hx => by
    rw [getD_set hkl, if_neg]; rintro rfl; exact hko hx
  have hkM : k ∉ M := fun hc => by have := ((h.mem k).1 hc).2.2; omega
  have hmem' : ∀ x, x ∈ M' ↔ x ∈ M ∨ (x = k ∧ ah.getD k 0 - 1 = 0) := by
    intro x
    rw [hM.mem_iff]
    by_cases h0 : ah.getD k 0 - 1 = 0
    · rw [if_pos h0, List.mem_cons]; constructor
      · rintro (rfl | hx); exact .inr ⟨rfl, h0⟩; exact .inl hx
      · rintro (hx | ⟨rfl, _⟩); exact .inr hx; exact .inl rfl
    · rw [if_neg h0]; exact ⟨.inl, fun hx => hx.resolve_right fun hh => h0 hh.2⟩
  refine ⟨h.nd, h.lt, h.hi, h.pre, h.zero, by simpa using h.ahl, by simpa using h.lvl, ?_, ?_, ?_, ?_, ?_, ?_, ?_, ?_⟩
  · intro x hx
    rw [getD_set hka]
    by_cases e : x = k
    · subst e
      rw [if_pos rfl, hah1, hdrop, List.count_cons_self]; omega
    · rw [if_neg e, h.ahc x hx, hdrop, List.count_cons_of_ne (Ne.symm e)]
  · refine hM.nodup_iff.2 ?_
    split
    · exact List.nodup_cons.2 ⟨hkM, h.mnd⟩
    · exact h.mnd
  · intro x
    rw [hmem', h.mem, getD_set hka]
    by_cases e : x = k
    · subst e
      rw [if_pos rfl]
      constructor
      · rintro (⟨_, _, h3⟩ | ⟨_, h3⟩)
        · omega
        · exact ⟨hkn, hko, h3⟩
      · rintro ⟨_, _, h3⟩; exact .inr ⟨rfl, h3⟩
    · rw [if_neg e]
      exact ⟨fun hx => hx.resolve_right fun hh => e hh.1, .inl⟩
  · intro e he h1 hne
    rw [hlvo _ h1, getD_set hkl]
    have := h.lv1 e he h1 hne
    split
    · rename_i e2; rw [e2] at this; omega
    · exact this
  · intro x hx
    rw [htake] at hx
    rw [hlvo _ h.hi, getD_set hkl]
    split
    · omega
    · rename_i hne
      rcases List.mem_append.1 hx with hx | hx
      · exact h.lv1' x hx
      · simp at hx; exact absurd hx hne
  · intro x hx
    obtain ⟨h0, h1⟩ := h.lv2 x hx
    rw [getD_set hkl]
    by_cases e : x = k
    · subst e
      rw [if_pos rfl]
      have hli := (h.lv2 i hin).1
      refine ⟨by omega, .inr ?_⟩
      by_cases hmx : lv.getD x 0 ≤ lv.getD i 0 + 1
      · exact ⟨(i, x), outs_mem.1 (List.mem_of_getElem? hk), rfl, h.hi, by rw [hlvo _ h.hi]; omega⟩
      · rcases h1 with h1 | ⟨e, he, a, b, c⟩
        · omega
        · exact ⟨e, he, a, b, by rw [hlvo _ b]; omega⟩
    · rw [if_neg e]
      refine ⟨h0, h1.imp id ?_⟩
      rintro ⟨e', he, a, b, c⟩
      exact ⟨e', he, a, b, by rw [hlvo _ b]; exact c⟩
  · intro p x hp
    rw [hlvo x (List.mem_of_getElem? hp)]
    exact h.lvb p x hp
  · intro x hx
    rw [getD_set hkl]
    have := h.lvc x hx
    split
    · have h2 := h.lvc k hkn
      obtain ⟨p, hp⟩ := List.mem_iff_getElem?.1 h.hi
      have h3 := h.lvb p i hp
      have h4 : p < ord.length := by
        rcases Nat.lt_or_ge p ord.length with h' | h'
        · exact h'
        · rw [List.getElem?_eq_none h'] at hp; cases hp
      omega
    · exact this

theorem KIn.done {n : Nat} {E : List (Nat × Nat)} {ord : List Nat} {i j : Nat} {ah lv : List Int} {M : List Nat} (h : KIn n E ord i j ah lv M) (hj : (outs E i).length ≤ j) : KInv n E ord ah lv M := by
  refine ⟨h.nd, h.lt, h.pre, fun e he h2 => (h.zero e he h2).1, h.ahl, h.lvl, ?_, h.mnd, h.mem, ?_, h.lv2, h.lvb, h.lvc⟩
  · intro k hk
    rw [h.ahc k hk, List.drop_eq_nil_of_le hj]; simp
  · intro e he h1
    by_cases hne : e.1 = i
    · subst hne
      exact h.lv1' e.2 (by rw [List.take_of_length_le hj]; exact outs_mem.2 he)
    · exact h.lv1 e he h1 hne

theorem KInv.spec {n : Nat} {E : List (Nat × Nat)} {ord : List Nat} {ah lv : List Int} (h : KInv n E ord ah lv []) : RunSpec n E ord lv :=
  ⟨h.nd, h.lt, h.pre, fun k hk => by have := (h.avail k).2 hk; simp at this, h.lvl, h.lv1, h.lv2, h.lvb⟩

theorem nodup_le {n : Nat} {l : List Nat} (hn : l.Nodup) (hl : ∀ x ∈ l, x < n) : l.length ≤ n := by
  have h1 : l.Perm ((List.range n).filter fun x => l.contains x) := (List.perm_ext_iff_of_nodup hn (List.nodup_range.filter _)).2 fun x => by
    simp [List.mem_filter]
    exact fun hx => hl x hx
  have := h1.length_eq
  have h2 := List.length_filter_le (fun x => l.contains x) (List.range n)
  rw [List.length_range] at h2
  omega
end Go.Proofs.Ytofoibckfkbdoaa
