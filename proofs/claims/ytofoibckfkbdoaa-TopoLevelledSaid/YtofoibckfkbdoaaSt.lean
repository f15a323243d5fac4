/- What is owned of memory: a list of chunks, each apart from the others, all else as it was when the call began. Words for walks; no statement is proved here. -/
import Derived.WalkKit
import Derived.Deep.Draws
import Derived.Maps.AppendAt
import Derived.Laws.Rows
namespace Go.HG
open Go.RowKit

abbrev HP := List (Nat × Obj) → Prop

/-- The walk stops here. -/
def Stop (p : Prop) : Prop := p
theorem stop_at {p : Prop} (h : Stop p) : p := h
theorem go_on {p : Prop} (h : p) : Stop p := h

def SepL : List HP → List (Nat × Obj) → Prop
  | [], H => H = []
  | P :: Ps, H => ∃ H1 H2, H = H1 ++ H2 ∧ P H1 ∧ SepL Ps H2

def Pt (b : Nat) (o : Obj) : HP := fun H => H = [(b, o)]

/-- From w0 to w: the chunks L are owned in w; blocks of w0 that are not of K are as they were. -/
structure St (w0 : World) (K : Nat → Prop) (w : World) (L : List HP) : Prop where
  os : w.os = w0.os
  tape : w.tape = w0.tape
  output : w.output = w0.output
  size : w0.heap.size ≤ w.heap.size
  same : ∀ b, b < w0.heap.size → ¬ K b → w.heap[b]? = w0.heap[b]?
  own : ∃ H : List (Nat × Obj), SepL L H ∧ (H.map Prod.fst).Nodup ∧ (∀ p ∈ H, w.heap[p.1]? = some p.2) ∧ (∀ p ∈ H, K p.1 ∨ w0.heap.size ≤ p.1)

theorem St.refl (w : World) (K : Nat → Prop) : St w K w [] :=
  ⟨rfl, rfl, rfl, Nat.le_refl _, fun _ _ _ => rfl, [], rfl, List.nodup_nil, by simp, by simp⟩

theorem sepL_append {L1 : List HP} : ∀ {L2 : List HP} {H : List (Nat × Obj)}, SepL (L1 ++ L2) H ↔ ∃ H1 H2, H = H1 ++ H2 ∧ SepL L1 H1 ∧ SepL L2 H2 := by
  induction L1 with
  | nil => intro L2 H; exact ⟨fun h => ⟨[], H, rfl, rfl, h⟩, fun ⟨H1, H2, e, h1, h2⟩ => by cases h1; subst e; exact h2⟩
  | cons P Ps ih =>
    intro L2 H
    constructor
    · rintro ⟨A, B, rfl, hp, hs⟩
      obtain ⟨C, D, rfl, h1, h2⟩ := ih.1 hs
      exact ⟨A ++ C, D, by simp, ⟨A, C, rfl, hp, h1⟩, h2⟩
    · rintro ⟨H1, H2, rfl, ⟨A, C, rfl, hp, h1⟩, h2⟩
      exact ⟨A, C ++ H2, by simp, hp, ih.2 ⟨C, H2, rfl, h1, h2⟩⟩

theorem sepL_perm {L L' : List HP} (hp : L.Perm L') : ∀ {H}, SepL L H → ∃ H', H'.Perm H ∧ SepL L' H' := by
  induction hp with
  | nil => exact fun h => ⟨_, List.Perm.refl _, h⟩
  | cons x _ ih =>
    rintro H ⟨A, B, rfl, hx, hs⟩
    obtain ⟨B', hb, hs'⟩ := ih hs
    exact ⟨A ++ B', hb.append_left A, A, B', rfl, hx, hs'⟩
  | swap x y l =>
    rintro H ⟨A, B, rfl, hy, C, D, rfl, hx, hs⟩
    refine ⟨C ++ (A ++ D), ?_, C, A ++ D, rfl, hx, A, D, rfl, hy, hs⟩
    rw [← List.append_assoc, ← List.append_assoc]
    exact (List.perm_append_comm).append_right D
  | trans _ _ ih1 ih2 =>
    intro H h
    obtain ⟨H1, p1, h1⟩ := ih1 h
    obtain ⟨H2, p2, h2⟩ := ih2 h1
    exact ⟨H2, p2.trans p1, h2⟩

section
variable {w0 w w' : World} {K : Nat → Prop} {L L' A B : List HP}

/-- The chunks told anew: same heap, other words. -/
theorem St.imp (h : St w0 K w L) (hi : ∀ H, SepL L H → ∃ H', H'.Perm H ∧ SepL L' H') : St w0 K w L' := by
  obtain ⟨a1, a2, a3, a4, a5, H, hs, hn, hh, hk⟩ := h
  obtain ⟨H', hp, hs'⟩ := hi H hs
  exact ⟨a1, a2, a3, a4, a5, H', hs', (hp.map _).nodup_iff.2 hn, fun p hm => hh p (hp.mem_iff.1 hm), fun p hm => hk p (hp.mem_iff.1 hm)⟩

theorem St.perm (h : St w0 K w L) (hp : L.Perm L') : St w0 K w L' := h.imp fun _ hs => sepL_perm hp hs

theorem perm_to {c : HP} {l : List HP} (is : List Nat) (hp : is.Perm (List.range l.length)) : (is.map fun i => l.getD i c).Perm l := by
  have h1 : (is.map fun i => l.getD i c).Perm ((List.range l.length).map fun i => l.getD i c) := hp.map _
  refine h1.trans (List.Perm.of_eq ?_)
  apply List.ext_getElem?
  intro i
  rw [List.getElem?_map]
  by_cases hi : i < l.length
  · rw [List.getElem?_range hi]; simp [hi]
  · rw [List.getElem?_eq_none (by simp; omega), List.getElem?_eq_none (by omega)]; rfl

/-- The chunks in the order of the places 'is'. -/
theorem St.pick (h : St w0 K w L) (is : List Nat) (hp : (is.isPerm (List.range L.length)) = true) (hL : L' = is.map fun i => L.getD i (fun _ => False)) : St w0 K w L' := by
  subst hL
  exact h.perm (perm_to is (List.isPerm_iff.1 hp)).symm

theorem St.drop1 {P : HP} (h : St w0 K w (P :: L)) : St w0 K w L := by
  obtain ⟨a1, a2, a3, a4, a5, H, ⟨H1, H2, rfl, _, hs⟩, hn, hh, hk⟩ := h
  refine ⟨a1, a2, a3, a4, a5, H2, hs, ?_, fun p hm => hh p (List.mem_append_right _ hm), fun p hm => hk p (List.mem_append_right _ hm)⟩
  rw [List.map_append] at hn
  exact (List.nodup_append.1 hn).2.1

theorem St.right {L1 L2 : List HP} (h : St w0 K w (L1 ++ L2)) : St w0 K w L2 := by
  induction L1 with
  | nil => exact h
  | cons P Ps ih => exact ih h.drop1
theorem St.left {L1 L2 : List HP} (h : St w0 K w (L1 ++ L2)) : St w0 K w L1 := St.right (L1 := L2) (h.perm List.perm_append_comm)

theorem St.drew (h : St w0 K w L) : St w0 K w.drew L := ⟨h.os, h.tape, h.output, h.size, h.same, h.own⟩
theorem St.drewN (h : St w0 K w L) (n : Nat) : St w0 K (w.drewN n) L := ⟨h.os, h.tape, h.output, h.size, h.same, h.own⟩
theorem St.at_drewN {n : Nat} (h : St w0 K w L) (e : w.drewN n = w') : St w0 K w' L := by subst e; exact h.drewN n

/-- An owned chunk that tells more is told so. -/
theorem St.open1 {P : HP} {X : Type} {Q : X → List HP} (h : St w0 K w (P :: L)) (hi : ∀ H, P H → ∃ x, SepL (Q x) H) : ∃ x, St w0 K w (Q x ++ L) := by
  obtain ⟨a1, a2, a3, a4, a5, H, ⟨H1, H2, rfl, hp, hs⟩, hn, hh, hk⟩ := h
  obtain ⟨x, hx⟩ := hi H1 hp
  exact ⟨x, a1, a2, a3, a4, a5, H1 ++ H2, sepL_append.2 ⟨H1, H2, rfl, hx, hs⟩, hn, hh, hk⟩

theorem St.close1 {P : HP} (h : St w0 K w (A ++ L)) (hi : ∀ H, SepL A H → P H) : St w0 K w (P :: L) := by
  obtain ⟨a1, a2, a3, a4, a5, H, hs, hn, hh, hk⟩ := h
  obtain ⟨H1, H2, rfl, h1, h2⟩ := sepL_append.1 hs
  exact ⟨a1, a2, a3, a4, a5, H1 ++ H2, ⟨H1, H2, rfl, hi H1 h1, h2⟩, hn, hh, hk⟩

/-- A fact that a chunk bears. -/
theorem St.fact1 {P : HP} {p : Prop} (h : St w0 K w (P :: L)) (hi : ∀ H, P H → p) : p := by
  obtain ⟨_, _, _, _, _, H, ⟨H1, H2, rfl, hp, _⟩, _⟩ := h
  exact hi H1 hp

/-! ### a chunk brought to the front, and back -/
theorem St.f1 {a b : HP} (h : St w0 K w (a :: b :: L)) : St w0 K w (b :: a :: L) := h.perm (List.Perm.swap b a L)
theorem St.f2 {a b c : HP} (h : St w0 K w (a :: b :: c :: L)) : St w0 K w (c :: a :: b :: L) := h.perm (((List.Perm.swap c b L).cons a).trans (List.Perm.swap c a (b :: L)))
theorem St.f3 {a b c d : HP} (h : St w0 K w (a :: b :: c :: d :: L)) : St w0 K w (d :: a :: b :: c :: L) := h.perm ((((List.Perm.swap d c L).cons b).cons a).trans ((((List.Perm.swap d b (c :: L))).cons a).trans (List.Perm.swap d a (b :: c :: L))))
theorem St.f4 {a b c d x : HP} (h : St w0 K w (a :: b :: c :: d :: x :: L)) : St w0 K w (x :: a :: b :: c :: d :: L) :=
  (h.perm ((((List.Perm.swap x d L).cons c).cons b).cons a)).f3
theorem St.f5 {a b c d x y : HP} (h : St w0 K w (a :: b :: c :: d :: x :: y :: L)) : St w0 K w (y :: a :: b :: c :: d :: x :: L) :=
  (h.perm (((((List.Perm.swap y x L).cons d).cons c).cons b).cons a)).f4
theorem St.f6 {a b c d x y z : HP} (h : St w0 K w (a :: b :: c :: d :: x :: y :: z :: L)) : St w0 K w (z :: a :: b :: c :: d :: x :: y :: L) :=
  (h.perm ((((((List.Perm.swap z y L).cons x).cons d).cons c).cons b).cons a)).f5
theorem St.b2 {a b c : HP} (h : St w0 K w (c :: a :: b :: L)) : St w0 K w (a :: b :: c :: L) := h.f2.f2
theorem St.b3 {a b c d : HP} (h : St w0 K w (d :: a :: b :: c :: L)) : St w0 K w (a :: b :: c :: d :: L) := h.f3.f3.f3
theorem St.b4 {a b c d x : HP} (h : St w0 K w (x :: a :: b :: c :: d :: L)) : St w0 K w (a :: b :: c :: d :: x :: L) := h.f4.f4.f4.f4
theorem St.b5 {a b c d x y : HP} (h : St w0 K w (y :: a :: b :: c :: d :: x :: L)) : St w0 K w (a :: b :: c :: d :: x :: y :: L) := h.f5.f5.f5.f5.f5
theorem St.b6 {a b c d x y z : HP} (h : St w0 K w (z :: a :: b :: c :: d :: x :: y :: L)) : St w0 K w (a :: b :: c :: d :: x :: y :: z :: L) := h.f6.f6.f6.f6.f6.f6

/-! ### a block -/
variable {b : Nat} {o o' : Obj}
theorem St.block (h : St w0 K w (Pt b o :: L)) : w.heap[b]? = some o := by
  obtain ⟨_, _, _, _, _, H, ⟨H1, H2, rfl, hp, hs⟩, _, hh, _⟩ := h
  cases hp
  exact hh (b, o) (by simp)
theorem St.lt (h : St w0 K w (Pt b o :: L)) : b < w.heap.size := lt_of_block h.block
theorem St.may (h : St w0 K w (Pt b o :: L)) : K b ∨ w0.heap.size ≤ b := by
  obtain ⟨_, _, _, _, _, H, ⟨H1, H2, rfl, hp, hs⟩, _, _, hk⟩ := h
  cases hp
  exact hk (b, o) (by simp)
theorem St.ne {c : Nat} {o2 : Obj} (h : St w0 K w (Pt b o :: Pt c o2 :: L)) : b ≠ c := by
  obtain ⟨_, _, _, _, _, H, ⟨H1, H2, rfl, hp, ⟨H3, H4, rfl, hp', hs⟩⟩, hn, _, _⟩ := h
  cases hp; cases hp'
  simp at hn
  exact hn.1.1

/-- Block b turned: any world that is w but for block b. -/
theorem St.turn (h : St w0 K w (Pt b o :: L)) (e1 : w'.os = w.os) (e2 : w'.tape = w.tape) (e3 : w'.output = w.output) (e4 : w'.heap.size = w.heap.size)
    (hb : w'.heap[b]? = some o') (hne : ∀ c, c ≠ b → w'.heap[c]? = w.heap[c]?) : St w0 K w' (Pt b o' :: L) := by
  have hm := h.may
  obtain ⟨a1, a2, a3, a4, a5, H, ⟨H1, H2, rfl, hp, hs⟩, hn, hh, hk⟩ := h
  cases hp
  have hnb : ∀ p ∈ H2, p.1 ≠ b := by
    intro p hp e
    simp only [List.cons_append, List.nil_append, List.map_cons, List.nodup_cons] at hn
    exact hn.1 (by rw [← e]; exact List.mem_map_of_mem hp)
  refine ⟨e1.trans a1, e2.trans a2, e3.trans a3, by omega, ?_, [(b, o')] ++ H2, ⟨[(b, o')], H2, rfl, rfl, hs⟩, by simpa using hn, ?_, ?_⟩
  · intro c hc hnk
    rw [hne c (by rintro rfl; rcases hm with hm | hm; exact hnk hm; omega)]
    exact a5 c hc hnk
  · intro p hp
    simp only [List.cons_append, List.nil_append, List.mem_cons] at hp
    rcases hp with rfl | hp
    · exact hb
    · rw [hne _ (hnb p hp)]; exact hh p (by simp [hp])
  · intro p hp
    simp only [List.cons_append, List.nil_append, List.mem_cons] at hp
    rcases hp with rfl | hp
    · exact hm
    · exact hk p (by simp [hp])

variable {cs : Array Value} {e : TypeId} {fr : Nat × Nat}
theorem St.cell (h : St w0 K w (Pt b (.cells cs e fr) :: L)) (j : Nat) : w.cell? ⟨b, j, none⟩ = cs[j]? := cell_of_row w b j cs e fr h.block
theorem St.cellv {j : Nat} {v : Value} (h : St w0 K w (Pt b (.cells cs e fr) :: L)) (hv : cs[j]? = some v) : w.cell? ⟨b, j, none⟩ = some v := (h.cell j).trans hv
theorem St.free (h : St w0 K w (Pt b (.cells cs e (0, 0)) :: L)) (j : Nat) : w.frozen? ⟨b, j, none⟩ = false := by simp [World.frozen?, h.block]
theorem St.setCell (h : St w0 K w (Pt b (.cells cs e fr) :: L)) (j : Nat) (v : Value) : St w0 K (w.setCell ⟨b, j, none⟩ v) (Pt b (.cells (cs.setIfInBounds j v) e fr) :: L) :=
  h.turn rfl rfl rfl (by simp) (by simp [World.setCell, Array.getElem?_modify, h.block]) fun c hc => Below.heap_setCell w _ v c hc

theorem St.alloc (h : St w0 K w L) (o : Obj) : St w0 K (w.alloc o) (Pt w.heap.size o :: L) := by
  obtain ⟨a1, a2, a3, a4, a5, H, hs, hn, hh, hk⟩ := h
  have hlt : ∀ p ∈ H, p.1 < w.heap.size := fun p hp => lt_of_block (hh p hp)
  refine ⟨a1, a2, a3, by simp; omega, fun c hc hnk => (heap_alloc_old w o (r := c) (by omega)).trans (a5 c hc hnk), [(w.heap.size, o)] ++ H, ⟨_, H, rfl, rfl, hs⟩, ?_, ?_, ?_⟩
  · simp only [List.cons_append, List.nil_append, List.map_cons, List.nodup_cons]
    refine ⟨fun hm => ?_, hn⟩
    obtain ⟨p, hp, e⟩ := List.mem_map.1 hm
    have := hlt p hp
    omega
  · intro p hp
    simp only [List.cons_append, List.nil_append, List.mem_cons] at hp
    rcases hp with rfl | hp
    · exact heap_alloc_new w o
    · rw [heap_alloc_old w o (hlt p hp)]; exact hh p hp
  · intro p hp
    simp only [List.cons_append, List.nil_append, List.mem_cons] at hp
    rcases hp with rfl | hp
    · exact .inr a4
    · exact hk p hp

/-- What is not owned is as it was at the start. -/
theorem St.old (h : St w0 K w L) {a : Addr} (hb : a.block < w0.heap.size) (hk : ¬ K a.block) : w.cell? a = w0.cell? a := World.cell?_of_block (h.same _ hb hk)
theorem St.oldFrozen (h : St w0 K w L) {a : Addr} (hb : a.block < w0.heap.size) (hk : ¬ K a.block) : w.frozen? a = w0.frozen? a := World.frozen?_of_block (h.same _ hb hk)

theorem St.below (h : St w0 (fun _ => False) w L) : Below w0.heap.size w0 w := ⟨h.os, h.tape, h.output, h.size, fun k hk => h.same k hk (by simp)⟩

/-! ### the frame of a call -/
theorem St.frame {L1 L2 : List HP} (h : St w0 K w (L1 ++ L2)) :
    ∃ K1 : Nat → Prop, St w K1 w L1 ∧ (∀ c, K1 c → K c ∨ w0.heap.size ≤ c) ∧ (∀ w' L1', St w K1 w' L1' → St w0 K w' (L1' ++ L2)) := by
  obtain ⟨a1, a2, a3, a4, a5, H, hs, hn, hh, hk⟩ := h
  obtain ⟨H1, H2, rfl, h1, h2⟩ := sepL_append.1 hs
  have hn' := hn
  rw [List.map_append, List.nodup_append] at hn'
  refine ⟨fun c => c ∈ H1.map Prod.fst, ⟨rfl, rfl, rfl, Nat.le_refl _, fun _ _ _ => rfl, H1, h1, hn'.1, fun p hp => hh p (List.mem_append_left _ hp), fun p hp => .inl (List.mem_map_of_mem hp)⟩, ?_, ?_⟩
  · intro c hc
    obtain ⟨p, hp, rfl⟩ := List.mem_map.1 hc
    exact hk p (List.mem_append_left _ hp)
  · rintro w' L1' ⟨b1, b2, b3, b4, b5, G, gs, gn, gh, gk⟩
    have hlt : ∀ p ∈ H2, p.1 < w.heap.size := fun p hp => lt_of_block (hh p (List.mem_append_right _ hp))
    have hno : ∀ p ∈ H2, p.1 ∉ H1.map Prod.fst := fun p hp hm => hn'.2.2 _ hm _ (List.mem_map_of_mem hp) rfl
    refine ⟨b1.trans a1, b2.trans a2, b3.trans a3, by omega, ?_, G ++ H2, sepL_append.2 ⟨G, H2, rfl, gs, h2⟩, ?_, ?_, ?_⟩
    · intro c hc hnk
      rw [b5 c (by omega) (fun hm => ?_)]
      · exact a5 c hc hnk
      · obtain ⟨p, hp, rfl⟩ := List.mem_map.1 hm
        rcases hk p (List.mem_append_left _ hp) with hkk | hkk
        · exact hnk hkk
        · omega
    · rw [List.map_append, List.nodup_append]
      refine ⟨gn, hn'.2.1, fun x hx y hy e => ?_⟩
      obtain ⟨p, hp, rfl⟩ := List.mem_map.1 hx
      obtain ⟨q, hq, rfl⟩ := List.mem_map.1 hy
      rcases gk p hp with hm | hm
      · exact hno q hq (e ▸ hm)
      · have := hlt q hq; omega
    · intro p hp
      rcases List.mem_append.1 hp with hp | hp
      · exact gh p hp
      · rw [b5 _ (hlt p hp) (hno p hp)]
        exact hh p (List.mem_append_right _ hp)
    · intro p hp
      rcases List.mem_append.1 hp with hp | hp
      · rcases gk p hp with hm | hm
        · obtain ⟨q, hq, e⟩ := List.mem_map.1 hm
          rw [← e]
          exact hk q (List.mem_append_left _ hq)
        · exact .inr (by omega)
      · exact hk p (List.mem_append_right _ hp)

end
end Go.HG
