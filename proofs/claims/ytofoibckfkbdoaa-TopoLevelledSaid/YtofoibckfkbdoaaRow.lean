/- Slices that the call owns: a row of cells behind a slice value, with its append, store, cut. Words for walks; no statement is proved here. -/
import Derived.Test.YtofoibckfkbdoaaSt
import Derived.Laws.MakeOwn
import Derived.Deep.AppendLies
namespace Go.HG
open Go.RowKit

/-- The slice value v, of n elements of type e, sz cells each, begins somewhere in a block of its own; its cells are xs. -/
def Row (e : TypeId) (sz : Nat) (v : Value) (n : Nat) (xs : List Value) : HP := fun H =>
  xs.length = n * sz ∧ ((v = .slice none 0 0 ∧ n = 0 ∧ H = []) ∨
    ∃ g off cap cur, v = .slice (some ⟨g, off, none⟩) n cap ∧ H = [(g, .cells cur e (0, 0))] ∧ n ≤ cap ∧ cap ≤ maxLen ∧ off + cap * sz ≤ cur.size ∧ (cur.toList.drop off).take (n * sz) = xs)

theorem addr_add (g off j : Nat) : (⟨g, off, none⟩ : Addr).add j = ⟨g, off + j, none⟩ := by unfold Addr.add; split <;> simp_all

section
variable {w0 w w' : World} {K : Nat → Prop} {L : List HP} {e : TypeId} {sz n : Nat} {v : Value} {xs : List Value}

theorem row_nil (e : TypeId) (sz : Nat) : Row e sz (.slice none 0 0) 0 [] [] := ⟨by simp, .inl ⟨rfl, rfl, rfl⟩⟩

theorem St.addNil (h : St w0 K w L) (e : TypeId) (sz : Nat) : St w0 K w (Row e sz (.slice none 0 0) 0 [] :: L) := by
  obtain ⟨a1, a2, a3, a4, a5, H, hs, hn, hh, hk⟩ := h
  exact ⟨a1, a2, a3, a4, a5, H, ⟨[], H, rfl, row_nil e sz, hs⟩, hn, hh, hk⟩

theorem St.rowLen (h : St w0 K w (Row e sz v n xs :: L)) : xs.length = n * sz := h.fact1 fun _ hr => hr.1

/-- A row that has elements: where it lies, its cells. -/
theorem St.rowOpen (h : St w0 K w (Row e sz v n xs :: L)) (hn : 0 < n) : ∃ g off cap, v = .slice (some ⟨g, off, none⟩) n cap ∧ (∀ j u, xs[j]? = some u → w.cell? ⟨g, off + j, none⟩ = some u) ∧ (∀ j, w.frozen? ⟨g, j, none⟩ = false) ∧ n ≤ cap ∧ cap ≤ maxLen ∧ (K g ∨ w0.heap.size ≤ g) ∧ g < w.heap.size := by
  obtain ⟨_, _, _, _, _, H, ⟨H1, H2, rfl, ⟨hl, hr⟩, hs⟩, hnd, hh, hk⟩ := h
  rcases hr with ⟨_, h0, _⟩ | ⟨g, off, cap, cur, rfl, rfl, hnc, hcm, hsz, ht⟩
  · omega
  have hb : w.heap[g]? = some (.cells cur e (0, 0)) := hh (g, _) (by simp)
  refine ⟨g, off, cap, rfl, ?_, fun j => by simp [World.frozen?, hb], hnc, hcm, hk (g, .cells cur e (0, 0)) (by simp), lt_of_block hb⟩
  intro j u hu
  rw [cell_of_row w g _ cur e (0, 0) hb, ← Array.getElem?_toList]
  rw [← ht, List.getElem?_take] at hu
  split at hu
  · rwa [List.getElem?_drop] at hu
  · cases hu

theorem St.rowForm (h : St w0 K w (Row e sz v n xs :: L)) : ∃ a c, v = .slice a n c := h.fact1 fun _ hr => by
  rcases hr.2 with ⟨rfl, rfl, _⟩ | ⟨g, off, cap, _, rfl, _⟩
  · exact ⟨_, _, rfl⟩
  · exact ⟨_, _, rfl⟩

/-- A block that is a row. -/
theorem St.toRow {g off cap : Nat} {cur : Array Value} (h : St w0 K w (Pt g (.cells cur e (0, 0)) :: L)) (n : Nat) (hn : n ≤ cap) (hc : cap ≤ maxLen) (hs : off + cap * sz ≤ cur.size) :
    St w0 K w (Row e sz (.slice (some ⟨g, off, none⟩) n cap) n ((cur.toList.drop off).take (n * sz)) :: L) := by
  refine h.close1 (A := [Pt g (.cells cur e (0, 0))]) ?_
  rintro H ⟨H1, H2, rfl, h1, h2⟩
  cases h1; cases h2
  refine ⟨?_, .inr ⟨g, off, cap, cur, rfl, rfl, hn, hc, hs, rfl⟩⟩
  have : n * sz ≤ cap * sz := Nat.mul_le_mul_right _ hn
  simp
  omega

theorem St.madeRow {z : Value} (h : St w0 K w L) (e : TypeId) (n : Nat) (hc : n ≤ maxLen) :
    St w0 K (w.alloc (.cells (madeCells z.cells (n * sz)) e)) (Row e sz (.slice (some ⟨w.heap.size, 0, none⟩) n n) n (madeCells z.cells (n * sz)).toList :: L) := by
  have h1 := (h.alloc (.cells (madeCells z.cells (n * sz)) e)).toRow (sz := sz) (off := 0) (cap := n) n (Nat.le_refl _) hc (by rw [size_madeCells]; omega)
  rw [List.drop_zero, List.take_of_length_le (by simp [size_madeCells])] at h1
  exact h1

/-- A store into a row. -/
theorem St.rowSet {g off cap : Nat} (h : St w0 K w (Row e sz (.slice (some ⟨g, off, none⟩) n cap) n xs :: L)) (j : Nat) (u : Value) :
    j < n * sz → St w0 K (w.setCell ⟨g, off + j, none⟩ u) (Row e sz (.slice (some ⟨g, off, none⟩) n cap) n (xs.set j u) :: L) := by
  intro hj
  obtain ⟨⟨cur, p1, p2, p3, p4, p5⟩, h1⟩ := h.open1 (X := { cur : Array Value // n ≤ cap ∧ cap ≤ maxLen ∧ off + cap * sz ≤ cur.size ∧ (cur.toList.drop off).take (n * sz) = xs ∧ xs.length = n * sz }) (Q := fun c => [Pt g (.cells c.1 e (0, 0))]) (by
    rintro H ⟨hl, ⟨h0, _⟩ | ⟨g', off', cap', cur, hv, rfl, hr⟩⟩
    · cases h0
    · cases hv
      exact ⟨⟨cur, hr.1, hr.2.1, hr.2.2.1, hr.2.2.2, hl⟩, [(g, .cells cur e (0, 0))], [], rfl, rfl, rfl⟩)
  have hle : n * sz ≤ cap * sz := Nat.mul_le_mul_right _ p1
  have h2 := (h1.setCell (off + j) u).toRow (sz := sz) (off := off) n p1 p2 (by rw [Array.size_setIfInBounds]; exact p3)
  have hx : ((cur.setIfInBounds (off + j) u).toList.drop off).take (n * sz) = xs.set j u := by
    rw [Array.toList_setIfInBounds, ← p4]
    apply List.ext_getElem?
    intro i
    simp only [List.getElem?_take, List.getElem?_set, List.getElem?_drop, List.length_take, List.length_drop, Array.length_toList]
    by_cases hi : i < n * sz
    · by_cases hij : j = i
      · subst hij
        have e1 : off + j < cur.size := by omega
        have e2 : j < min (n * sz) (cur.size - off) := by omega
        simp [hi, e1, e2]
      · simp [hi, hij]
    · have : ¬ j = i := by omega
      simp [hi, this]
  rw [hx] at h2
  exact h2

/-- A cut at its end. -/
theorem St.rowTake {a : Option Addr} {cap : Nat} (h : St w0 K w (Row e sz (.slice a n cap) n xs :: L)) (k : Nat) (hk : k ≤ n) : St w0 K w (Row e sz (.slice a k cap) k (xs.take (k * sz)) :: L) := by
  obtain ⟨⟨_⟩, h1⟩ := h.open1 (X := Unit) (Q := fun _ => [Row e sz (.slice a k cap) k (xs.take (k * sz))]) (by
    rintro H ⟨hl, hr⟩
    refine ⟨(), H, [], by simp, ?_, rfl⟩
    have hkn : k * sz ≤ n * sz := Nat.mul_le_mul_right _ hk
    refine ⟨by rw [List.length_take, hl]; omega, ?_⟩
    rcases hr with ⟨hv, h0, rfl⟩ | ⟨g', off', cap', cur, hv, rfl, h2, h3, h4, h5⟩
    · cases hv
      have : k = 0 := by omega
      subst this
      exact .inl ⟨rfl, rfl, rfl⟩
    · cases hv
      refine .inr ⟨g', off', cap, cur, rfl, rfl, by omega, h3, h4, ?_⟩
      rw [← h5, List.take_take, Nat.min_eq_left hkn])
  exact h1

/-- A cut at its beginning: the value as the model makes it. -/
theorem St.rowDrop {g off cap : Nat} (h : St w0 K w (Row e sz (.slice (some ⟨g, off, none⟩) n cap) n xs :: L)) (k : Nat) (hk : k ≤ n) :
    St w0 K w (Row e sz (.slice (some (if cap = k then ⟨g, off, none⟩ else ⟨g, off + k * sz, none⟩)) (n - k) (cap - k)) (n - k) (xs.drop (k * sz)) :: L) := by
  obtain ⟨⟨_⟩, h1⟩ := h.open1 (X := Unit) (Q := fun _ => [Row e sz (.slice (some (if cap = k then ⟨g, off, none⟩ else ⟨g, off + k * sz, none⟩)) (n - k) (cap - k)) (n - k) (xs.drop (k * sz))]) (by
    rintro H ⟨hl, hr⟩
    refine ⟨(), H, [], by simp, ?_, rfl⟩
    refine ⟨by rw [List.length_drop, hl, Nat.sub_mul], ?_⟩
    rcases hr with ⟨hv, h0, rfl⟩ | ⟨g', off', cap', cur, hv, rfl, h2, h3, h4, h5⟩
    · cases hv
    · cases hv
      by_cases hc : cap = k
      · subst hc
        rw [if_pos rfl]
        have hn : n = cap := by omega
        subst hn
        refine .inr ⟨g, off, _, cur, rfl, rfl, by omega, by omega, by simp; omega, ?_⟩
        simp
        exact Nat.le_of_eq hl
      · rw [if_neg hc]
        refine .inr ⟨g, off + k * sz, _, cur, rfl, rfl, by omega, by omega, ?_, ?_⟩
        · have : (cap - k) * sz + k * sz = cap * sz := by rw [← Nat.add_mul]; congr 1; omega
          omega
        · rw [← h5, List.drop_take, List.drop_drop, Nat.sub_mul])
  exact h1

variable {P : Program}

/-- append onto an owned row. -/
theorem run_append_row (t ty : TypeId) (i : TypeInfo) (z : Value) (bytes : Nat) (ht : P.underlying t = some (.slice e)) (hi : P.info? e = some i) (hz : i.zero = some z)
    (hsize : i.size = sz) (hby : i.bytes = bytes) (hzs : z.cells.size = sz) (hsz : 0 < sz) (h : St w0 K w (Row e sz v n xs :: L))
    (a : Addr) (m c : Nat) (news : List Value) (hl : news.length = m * sz) (hnews : ∀ j u, news[j]? = some u → w.cell? (a.add j) = some u) (h1 : ∀ u ∈ news, u.oneCell' = true)
    (h63 : n + m ≤ maxLen) (hbytes : (n + m) * bytes ≤ 140737488355328) :
    ∃ v' w', (Builtin.append_ #[t, t] ty #[v, .slice (some a) m c]).run P w = .ok v' w' ∧ St w0 K w' (Row e sz v' (n + m) (xs ++ news) :: L) ∧ w.heap.size ≤ w'.heap.size := by
  subst hsize
  subst hby
  have hxl := h.rowLen
  have hsmall : n + m ≤ 9223372036854775807 := by simp only [maxLen] at h63; omega
  -- what the growing arm leaves
  have grown : ∀ old, old < n + m → St w0 K (w.drew.alloc (.cells (xs.toArray ++ news.toArray ++ Builtin.zeroCells z.cells (grownCap w (n + m) old e - (n + m))) e))
      (Row e i.size (.slice (some ⟨w.heap.size, 0, none⟩) (n + m) (grownCap w (n + m) old e)) (n + m) (xs ++ news) :: L) := by
    intro old _
    have hge := grownCap_ge w (n + m) old e
    have hcm : grownCap w (n + m) old e ≤ maxLen := grownCap_le_maxLen w (n + m) old e h63
    have h2 := (h.drop1.drew.alloc (.cells (xs.toArray ++ news.toArray ++ Builtin.zeroCells z.cells (grownCap w (n + m) old e - (n + m))) e)).toRow (sz := i.size) (off := 0) (cap := grownCap w (n + m) old e) (n + m) hge hcm (by
      simp only [Array.size_append, List.size_toArray, size_zeroCells, hzs, hxl, hl, ← Nat.add_mul, Nat.zero_add]
      exact Nat.mul_le_mul_right _ (by omega))
    have hx : ((xs.toArray ++ news.toArray ++ Builtin.zeroCells z.cells (grownCap w (n + m) old e - (n + m))).toList.drop 0).take ((n + m) * i.size) = xs ++ news := by
      simp only [Array.toList_append, List.drop_zero]
      rw [show (n + m) * i.size = (xs ++ news).length from by rw [List.length_append, hxl, hl, Nat.add_mul]]
      exact List.take_left
    rw [hx] at h2
    exact h2
  by_cases hm : m = 0
  · subst hm
    have hn : news = [] := List.eq_nil_of_length_eq_zero (by simpa using hl)
    subst hn
    refine ⟨v, w, ?_, by simpa using h, Nat.le_refl _⟩
    rcases h.fact1 (fun _ hr => hr.2.imp (fun x => x.1) (fun ⟨g, off, cap, cur, h1, _, h3, _⟩ => (⟨g, off, cap, h1, h3⟩ : ∃ g off cap, v = Value.slice (some ⟨g, off, none⟩) n cap ∧ n ≤ cap))) with rfl | ⟨g, off, cap, rfl, hnc⟩
    · simp [Builtin.append_, run_underlying ht, sizeOf, typeInfo, hi, Builtin.lenOf, Builtin.firstCells, loadCells, loadCellsFrom]
    · simp [Builtin.append_, run_underlying ht, sizeOf, typeInfo, hi, Builtin.lenOf, Builtin.firstCells, loadCells, loadCellsFrom, hnc, storeCells]
  obtain ⟨⟨q, hq⟩, hx⟩ := h.open1 (X := { _q : Unit // (v = .slice none 0 0 ∧ n = 0) ∨ ∃ g off cap cur, v = Value.slice (some ⟨g, off, none⟩) n cap ∧ n ≤ cap ∧ cap ≤ maxLen ∧ off + cap * i.size ≤ cur.size ∧ (cur.toList.drop off).take (n * i.size) = xs ∧ St w0 K w (Pt g (.cells cur e (0, 0)) :: L) }) (Q := fun _ => [Row e i.size v n xs]) (by
    rintro H hr
    refine ⟨⟨(), ?_⟩, H, [], by simp, hr, rfl⟩
    obtain ⟨_, hr⟩ := hr
    obtain ⟨a1, a2, a3, a4, a5, H', ⟨H1, H2, rfl, ⟨_, hr'⟩, hs⟩, hnd, hh, hk⟩ := h
    rcases hr' with ⟨hv, h0, rfl⟩ | ⟨g', off', cap', cur', hv', rfl, r1, r2, r3, r4⟩
    · exact .inl ⟨hv, h0⟩
    · exact .inr ⟨g', off', cap', cur', hv', r1, r2, r3, r4, a1, a2, a3, a4, a5, _, ⟨[(g', .cells cur' e (0, 0))], H2, rfl, rfl, hs⟩, hnd, hh, hk⟩)
  clear hx
  rcases hq with ⟨rfl, rfl⟩ | ⟨g, off, cap, cur, rfl, hnc, hcm, hcs, htake, hst⟩
  · have hx : xs = [] := List.eq_nil_of_length_eq_zero (by simpa using hxl)
    subst hx
    have hr := run_append_nil (P := P) w t ty e i z ht hi hz a m c news hl hnews (by omega) (by omega) (by have hb := hbytes; simp only [Nat.zero_add] at hb; omega)
    have hgr := grown 0 (by omega)
    simp only [Nat.zero_add, List.nil_append, Array.empty_append] at hgr ⊢
    exact ⟨_, _, hr, hgr, by simp⟩
  · by_cases hroom : n + m ≤ cap
    · have hle : (n + m) * i.size ≤ cap * i.size := Nat.mul_le_mul_right _ hroom
      rw [Nat.add_mul] at hle
      have hfit : off + n * i.size + 0 + news.length ≤ cur.size := by omega
      have hf := run_firstCells_some (P := P) w i.size m a m c news hl hnews
      have hstr := run_storeCells_at P g (off + n * i.size) e news 0 cur w hst.block hfit h1
      simp only [Nat.add_zero] at hstr
      refine ⟨.slice (some ⟨g, off, none⟩) (n + m) cap, w.setRow g (cur.toList.take (off + n * i.size) ++ news ++ cur.toList.drop (off + n * i.size + news.length)).toArray, ?_, ?_, by simp⟩
      · simp [Builtin.append_, run_underlying ht, sizeOf, typeInfo, hi, Builtin.lenOf, hroom, hf, addr_add, hstr]
      · have h3 := hst.turn (w' := w.setRow g (cur.toList.take (off + n * i.size) ++ news ++ cur.toList.drop (off + n * i.size + news.length)).toArray) rfl rfl rfl (by simp) (setRow_heap w g cur _ e (0, 0) hst.block) (fun c hc => setRow_other w g c _ hc)
        have h4 := h3.toRow (sz := i.size) (off := off) (cap := cap) (n + m) hroom hcm (by
          simp only [List.size_toArray, List.length_append, List.length_take, List.length_drop, Array.length_toList]
          omega)
        have hx : (((cur.toList.take (off + n * i.size) ++ news ++ cur.toList.drop (off + n * i.size + news.length)).toArray.toList.drop off).take ((n + m) * i.size)) = xs ++ news := by
          show ((cur.toList.take (off + n * i.size) ++ news ++ cur.toList.drop (off + n * i.size + news.length)).drop off).take ((n + m) * i.size) = xs ++ news
          rw [List.append_assoc, List.drop_append_of_le_length (by simp; omega), List.drop_take, show off + n * i.size - off = n * i.size from by omega, htake]
          rw [show (n + m) * i.size = (xs ++ news).length from by rw [List.length_append, hxl, hl, Nat.add_mul], ← List.append_assoc]
          exact List.take_left
        rw [hx] at h4
        exact h4
    · have holds : ∀ j u, xs[j]? = some u → w.cell? ((⟨g, off, none⟩ : Addr).add j) = some u := by
        intro j u hu
        rw [addr_add, cell_of_row w g _ cur e (0, 0) hst.block, ← Array.getElem?_toList]
        rw [← htake, List.getElem?_take] at hu
        split at hu
        · rwa [List.getElem?_drop] at hu
        · cases hu
      have hr := run_append_grow (P := P) w t ty e i z ht hi hz ⟨g, off, none⟩ n cap xs hxl holds a m c news hl hnews (by omega) (by omega) (growslice_fits (by omega) hbytes)
      exact ⟨_, _, hr, grown cap (by omega), by simp⟩

/-- An operation that runs to a value. -/
theorem wl_run {ops : Array Oper} {rest : List Oper} {o : Oper} {a : Act} {Q : Exit → Act → World → Prop} {u : Value} (hg : o.guard = none) (hr : (execOp a.eval o).run P w = .ok (.value u) w')
    (h : wpList P ops Q rest (a.put o.dst u) w') : wpList P ops Q (o :: rest) a w :=
  wpList_plain hg fun K hK => by unfold Oper.wp; rw [hr]; exact hK _ _ h
theorem wl_skip {ops : Array Oper} {rest : List Oper} {o : Oper} {a : Act} {Q : Exit → Act → World → Prop} (hg : o.guard = none) (hr : (execOp a.eval o).run P w = .ok .skip w')
    (h : wpList P ops Q rest (a.put o.dst undef) w') : wpList P ops Q (o :: rest) a w :=
  wpList_plain hg fun K hK => by unfold Oper.wp; rw [hr]; exact hK _ _ h

/-- append(s, x) at the walk: x a slice of m elements whose cells are known. -/
theorem wl_append {ops : Array Oper} {rest : List Oper} {a : Act} {Q : Exit → Act → World → Prop} {dst : Option Tmp} {ty : TypeId} {pos : String} {after : Array Edge} {s x : Operand} {t : TypeId}
    (h : St w0 K w (Row e sz v n xs :: L)) (ht : P.underlying t = some (.slice e)) {z : Value} {bytes : Nat} (hinfo : (P.info? e).map (fun i => (i.zero, i.size, i.bytes)) = some (some z, sz, bytes)) (hzs : z.cells.size = sz) (hsz : 0 < sz)
    (hs : a.eval s = v) {ad : Addr} {m c : Nat} {news : List Value} (hx : a.eval x = .slice (some ad) m c) (hl : news.length = m * sz) (hnews : ∀ j u, news[j]? = some u → w.cell? (ad.add j) = some u) (h1 : ∀ u ∈ news, u.oneCell' = true)
    (h63 : n + m ≤ maxLen) (hbytes : (n + m) * bytes ≤ 140737488355328)
    (hk : ∀ v' w', St w0 K w' (Row e sz v' (n + m) (xs ++ news) :: L) → w.heap.size ≤ w'.heap.size → wpList P ops Q rest (a.put dst v') w') :
    wpList P ops Q ({ dst, op := .call { callee := .builtin .append, args := #[s, x], argTypes := #[t, t] }, type := ty, pos, after, guard := none } :: rest) a w := by
  obtain ⟨i, hi, hzz⟩ := Option.map_eq_some_iff.1 hinfo
  simp only [Prod.mk.injEq] at hzz
  obtain ⟨hz, hsize, hby⟩ := hzz
  obtain ⟨v', w', hr, h2, h3⟩ := run_append_row (P := P) t ty i z bytes ht hi hz hsize hby hzs hsz h ad m c news hl hnews h1 h63 hbytes
  refine wl_run rfl ?_ (hk v' w' h2 h3)
  unfold execOp
  simp only [resolve, invoke, builtin, Sem.run_bind, Sem.run_pure, Result.andThen_ok, List.map_toArray, List.map_cons, List.map_nil, hs, hx, hr]

end
end Go.HG
