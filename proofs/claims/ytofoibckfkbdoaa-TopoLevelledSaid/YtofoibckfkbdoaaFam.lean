/- Families of chunks; slices that came in and are only read; append at a step of a region; the frame of a call that is handed nothing. Words for walks. -/
import Derived.Test.YtofoibckfkbdoaaRow
namespace Go.HG
open Go.RowKit

abbrev No : Nat → Prop := fun _ => False

def Fam {α : Type} (f : α → HP) (is : List α) : HP := SepL (is.map f)

section
variable {w0 w w' : World} {K : Nat → Prop} {L : List HP}

theorem sep1 {P : HP} {L : List HP} {H : List (Nat × Obj)} : SepL (P :: L) H ↔ ∃ H1 H2, H = H1 ++ H2 ∧ P H1 ∧ SepL L H2 := Iff.rfl

theorem St.famNil {α : Type} (h : St w0 K w L) (f : α → HP) : St w0 K w (Fam f [] :: L) := by
  obtain ⟨a1, a2, a3, a4, a5, H, hs, hn, hh, hk⟩ := h
  exact ⟨a1, a2, a3, a4, a5, H, ⟨[], H, rfl, rfl, hs⟩, hn, hh, hk⟩
theorem St.famOf {α : Type} {f : α → HP} {is : List α} (h : St w0 K w (is.map f ++ L)) : St w0 K w (Fam f is :: L) := h.close1 (A := is.map f) fun _ hh => hh
theorem St.famTo {α : Type} {f : α → HP} {is : List α} (h : St w0 K w (Fam f is :: L)) : St w0 K w (is.map f ++ L) := by
  obtain ⟨_, h⟩ := h.open1 (X := Unit) (Q := fun _ => is.map f) fun _ hh => ⟨(), hh⟩
  exact h

variable {α : Type} [BEq α] [LawfulBEq α] {f g : α → HP} {is : List α} {i : α}
theorem St.famOut (h : St w0 K w (Fam f is :: L)) (hi : i ∈ is) : St w0 K w (f i :: Fam f (is.erase i) :: L) := by
  have h1 := h.famTo.perm (((List.perm_cons_erase hi).map f).append_right L)
  have h2 : St w0 K w ((is.erase i).map f ++ (f i :: L)) := h1.perm (List.perm_middle (a := f i) (l₁ := (is.erase i).map f) (l₂ := L)).symm
  exact h2.famOf.f1
theorem St.famIn (h : St w0 K w (g i :: Fam f (is.erase i) :: L)) (hi : i ∈ is) (hnd : is.Nodup) (hg : ∀ j ∈ is, j ≠ i → g j = f j) : St w0 K w (Fam g is :: L) := by
  have e1 : (is.erase i).map f = (is.erase i).map g := by
    apply List.map_congr_left
    intro j hj
    have hji : j ≠ i := by rintro rfl; exact (hnd.not_mem_erase) hj
    exact (hg j (List.mem_of_mem_erase hj) hji).symm
  have h1 : St w0 K w ((is.erase i).map g ++ (g i :: L)) := by rw [← e1]; exact h.f1.famTo
  have h2 : St w0 K w ((i :: is.erase i).map g ++ L) := h1.perm (List.perm_middle (a := g i) (l₁ := (is.erase i).map g) (l₂ := L))
  exact (h2.perm (((List.perm_cons_erase hi).map g).symm.append_right L)).famOf
end

/-! ### what came in -/
/-- The slice address A leads to these cells, in blocks of w. -/
def Rd (w : World) (A : Option Addr) (cells : List Value) : Prop := ∀ j u, cells[j]? = some u → ∃ b off, A = some ⟨b, off, none⟩ ∧ b < w.heap.size ∧ w.cell? ⟨b, off + j, none⟩ = some u
theorem Rd.later {w w' : World} {L : List HP} {A : Option Addr} {cells : List Value} (hr : Rd w A cells) (h : St w No w' L) : Rd w' A cells := by
  intro j u hu
  obtain ⟨b, off, e, hb, hc⟩ := hr j u hu
  exact ⟨b, off, e, Nat.lt_of_lt_of_le hb h.size, by rw [h.old (a := ⟨b, off + j, none⟩) hb (by simp)]; exact hc⟩
theorem Rd.nil (w : World) (A : Option Addr) : Rd w A [] := fun _ _ hu => by simp at hu
/-- Where the cells lie, one place for all. -/
theorem Rd.at_ {w : World} {A : Option Addr} {cells : List Value} (hr : Rd w A cells) (hn : 0 < cells.length) : ∃ b off, A = some ⟨b, off, none⟩ ∧ b < w.heap.size ∧ ∀ j u, cells[j]? = some u → w.cell? ⟨b, off + j, none⟩ = some u := by
  obtain ⟨b, off, rfl, hb, _⟩ := hr 0 cells[0] (List.getElem?_eq_getElem hn)
  refine ⟨b, off, rfl, hb, fun j u hu => ?_⟩
  obtain ⟨b', off', e, _, hc⟩ := hr j u hu
  cases e
  exact hc
/-- A row that is owned, read only for a while. -/
theorem St.rowRd {w0 w : World} {K : Nat → Prop} {L : List HP} {e : TypeId} {sz n : Nat} {a : Option Addr} {cap : Nat} {xs : List Value} (h : St w0 K w (Row e sz (.slice a n cap) n xs :: L)) : Rd w a xs := by
  intro j u hu
  have hl := h.rowLen
  have hn : 0 < n := by
    rcases Nat.eq_zero_or_pos n with h0 | h0
    · subst h0
      have : xs = [] := List.eq_nil_of_length_eq_zero (by simpa using hl)
      subst this; simp at hu
    · exact h0
  obtain ⟨g, off, c, hv, hc, _, _, _, _, hlt⟩ := h.rowOpen hn
  cases hv
  exact ⟨g, off, rfl, hlt, hc j u hu⟩

theorem St.frameNil {w0 w : World} {K : Nat → Prop} {L2 : List HP} (h : St w0 K w L2) : ∀ w' L1', St w No w' L1' → St w0 K w' (L1' ++ L2) := by
  intro w' L1' h'
  obtain ⟨K1, h1, _, hb⟩ := St.frame (L1 := []) h
  refine hb w' L1' ?_
  obtain ⟨b1, b2, b3, b4, b5, G, gs, gn, gh, gk⟩ := h'
  exact ⟨b1, b2, b3, b4, fun c hc _ => b5 c hc (by simp), G, gs, gn, gh, fun p hp => .inr ((gk p hp).resolve_left (by simp))⟩

/-! ### append as one operation -/
section
variable {P : Program} {w0 w : World} {K : Nat → Prop} {L : List HP} {e : TypeId} {sz n : Nat} {v : Value} {xs : List Value}
theorem op_append {o : Oper} {a : Act} {KK : Act → World → Prop} {Q : Exit → Act → World → Prop} (s x : Operand) (t : TypeId)
    (ho : o.op = .call { callee := .builtin .append, args := #[s, x], argTypes := #[t, t] })
    (h : St w0 K w (Row e sz v n xs :: L)) (ht : P.underlying t = some (.slice e)) {z : Value} {bytes : Nat} (hinfo : (P.info? e).map (fun i => (i.zero, i.size, i.bytes)) = some (some z, sz, bytes)) (hzs : z.cells.size = sz) (hsz : 0 < sz)
    (hs : a.eval s = v) {ad : Addr} {m c : Nat} {news : List Value} (hx : a.eval x = .slice (some ad) m c) (hl : news.length = m * sz) (hnews : ∀ j u, news[j]? = some u → w.cell? (ad.add j) = some u) (h1 : ∀ u ∈ news, u.oneCell' = true)
    (h63 : n + m ≤ maxLen) (hbytes : (n + m) * bytes ≤ 140737488355328)
    (hk : ∀ v' w', St w0 K w' (Row e sz v' (n + m) (xs ++ news) :: L) → w.heap.size ≤ w'.heap.size → KK (a.put o.dst v') w') :
    o.wp P a w KK Q := by
  obtain ⟨i, hi, hzz⟩ := Option.map_eq_some_iff.1 hinfo
  simp only [Prod.mk.injEq] at hzz
  obtain ⟨hz, hsize, hby⟩ := hzz
  obtain ⟨v', w', hr, h2, h3⟩ := run_append_row (P := P) t o.type i z bytes ht hi hz hsize hby hzs hsz h ad m c news hl hnews h1 h63 hbytes
  unfold Oper.wp execOp
  simp only [ho, resolve, invoke, builtin, Sem.run_bind, Sem.run_pure, Result.andThen_ok, List.map_toArray, List.map_cons, List.map_nil, hs, hx, hr]
  exact hk v' w' h2 h3
end
end Go.HG
