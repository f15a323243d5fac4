/- walks: Push, Pop of the waiting ones; container/heap's Push, Pop -/
import Derived.Test.YtofoibckfkbdoaaC
namespace Go.Proofs.Ytofoibckfkbdoaa
open Go.RowKit Go.HG

theorem info3 : (Try.prog.info? 3).map (fun i => (i.zero, i.size, i.bytes)) = some (some (.int .i64 0), 1, 8) := by kernel_rfl

theorem ta3 (x : Int) (w : World) : (Instr.typeAssert (.iface 3 (.int .i64 x)) 20 3 true).run Try.prog w = .ok (.tuple #[.int .i64 x, .bool true]) w := by kernel_rfl

section
variable {w0 w : World} {K : Nat → Prop} {F : List HP}

/-- The waiting numbers, at block g. -/
def Wt (g : Nat) (xs : List Int) : HP := fun H => ∃ v, SepL [Pt g (.cells #[v] 46 (0, 0)), Row 3 1 v xs.length (ints xs)] H
theorem _root_.Go.HG.St.wtOpen {g : Nat} {xs : List Int} (h : St w0 K w (Wt g xs :: F)) : ∃ v, St w0 K w (Pt g (.cells #[v] 46 (0, 0)) :: Row 3 1 v xs.length (ints xs) :: F) :=
  h.open1 (Q := fun v => [Pt g (.cells #[v] 46 (0, 0)), Row 3 1 v xs.length (ints xs)]) fun _ hh => hh
theorem _root_.Go.HG.St.wtClose {g : Nat} {v : Value} {xs : List Int} (h : St w0 K w (Pt g (.cells #[v] 46 (0, 0)) :: Row 3 1 v xs.length (ints xs) :: F)) : St w0 K w (Wt g xs :: F) :=
  h.close1 (A := [Pt g (.cells #[v] 46 (0, 0)), Row 3 1 v xs.length (ints xs)]) fun _ hh => ⟨v, hh⟩

set_option maxHeartbeats 400000 in
theorem push_ok {g : Nat} {v : Value} {n : Nat} {xs : List Int} {x : Int} (h : St w0 K w (Pt g (.cells #[v] 46 (0, 0)) :: Row 3 1 v n (ints xs) :: F)) (hn : n < 900) :
    Calls Try.prog 41 #[.pointer (some ⟨g, 0, none⟩), .iface 3 (.int .i64 x)] w fun e w' => e = .returned (.tuple #[]) ∧ ∃ v', St w0 K w' (Pt g (.cells #[v'] 46 (0, 0)) :: Row 3 1 v' (n + 1) (ints (xs ++ [x])) :: F) := by
  have c0 : w.cell? ⟨g, 0, none⟩ = some v := h.cellv rfl
  have ta := ta3 x
  go_enter Try.func41, Try.ntmps41
  go_wp2_with (at_builtin; refine stop_at ?_)
  refine go_on ?_
  refine wl_append ((h.alloc _).f2) Try.underlying46 info3 rfl (by decide) rfl rfl rfl (cell_one_new _ _ _) (by intro u hu; simp at hu; subst hu; rfl) (by unfold maxLen; omega) (by omega) ?_
  intro v1 w1 h1 hs1
  obtain ⟨b, off, cap, rfl, _⟩ := h1.rowOpen (by omega)
  have h2 := h1.f1.drop1.f1
  have c1 : w1.cell? ⟨g, 0, none⟩ = some v := h2.cellv rfl
  have f1 := h2.free 0
  clear c0 hs1 h1
  go_wp2_with fail
  go_end0
  refine ⟨rfl, .slice (some ⟨b, off, none⟩) (n + 1) cap, ?_⟩
  have h3 := h2.setCell 0 (.slice (some ⟨b, off, none⟩) (n + 1) cap)
  rw [ints_append]
  exact h3

set_option maxHeartbeats 400000 in
theorem pop_ok {g : Nat} {v : Value} {n : Nat} {xs : List Int} (h : St w0 K w (Pt g (.cells #[v] 46 (0, 0)) :: Row 3 1 v (n + 1) (ints xs) :: F)) (hn : n < 900) :
    Calls Try.prog 40 #[.pointer (some ⟨g, 0, none⟩)] w fun e w' => e = .returned (.iface 3 (.int .i64 (xs.getD n 0))) ∧ ∃ v', St w0 K w' (Pt g (.cells #[v'] 46 (0, 0)) :: Row 3 1 v' n (ints (xs.take n)) :: F) := by
  have hl : xs.length = n + 1 := by have := h.drop1.rowLen; simpa [ints] using this
  obtain ⟨b, off, cap, rfl, hc, _, hnc, _⟩ := h.f1.rowOpen (by omega)
  have c0 : w.cell? ⟨g, 0, none⟩ = some (.slice (some ⟨b, off, none⟩) (n + 1) cap) := h.cellv rfl
  have f0 := h.free 0
  have c1 : w.cell? ⟨b, off + n, none⟩ = some (.int .i64 (xs.getD n 0)) := hc n _ (ints_get (by omega))
  clear hc
  have b1 : (n : Int) ≤ (cap : Int) := by omega
  obtain ⟨x, hx0⟩ : ∃ x, xs.getD n 0 = x := ⟨_, rfl⟩
  rw [hx0] at c1 ⊢
  clear hx0
  go_enter Try.func40, Try.ntmps40
  go_wp2_with fail
  go_ret
  have h1 := (h.f1.rowTake n (by omega)).f1.setCell 0 (.slice (some ⟨b, off, none⟩) n cap)
  rw [Nat.mul_one, ints_take] at h1
  exact ⟨rfl, _, h1⟩

def PushPost (w0 : World) (K : Nat → Prop) (F : List HP) (g : Nat) (x : Int) (xs : List Int) (e : Ending) (w' : World) : Prop :=
  e = .returned (.tuple #[]) ∧ ∃ ys : List Int, ys.Perm (x :: xs) ∧ HeapOK ys ys.length ∧ St w0 K w' (Wt g ys :: F)

set_option maxHeartbeats 400000 in
theorem hpush_ok {g : Nat} {xs : List Int} {x : Int} (h : St w0 K w (Wt g xs :: F)) (hh : HeapOK xs xs.length) (hn : xs.length < 800) :
    Calls Try.prog 17 #[.iface 45 (.pointer (some ⟨g, 0, none⟩)), .iface 3 (.int .i64 x)] w (PushPost w0 K F g x xs) := by
  obtain ⟨v, h⟩ := h.wtOpen
  have m1 := m_push ⟨g, 0, none⟩
  go_enter Try.func17, Try.ntmps17
  go_wp2_with fail
  refine (push_ok h (by omega)).mono ?_
  rintro e w1 ⟨rfl, v1, h1⟩
  obtain ⟨b, off, cap, rfl, _⟩ := h1.f1.rowOpen (by omega)
  have c1 : w1.cell? ⟨g, 0, none⟩ = some (.slice (some ⟨b, off, none⟩) (xs.length + 1) cap) := h1.cellv rfl
  have m2 := m_len c1
  go_wp2_with fail
  refine (len_ok _ _ _ _).mono ?_
  rintro e w2 ⟨rfl, rfl⟩
  clear m1 m2 c1
  go_wp2_with fail
  refine (up_walk h1 (by omega) (by omega) (heap_push x hh)).mono ?_
  rintro e w2 ⟨rfl, ys, hp, hok, h2⟩
  go_wp2_with fail
  go_end0
  have hl : ys.length = xs.length + 1 := by have := hp.length_eq; simpa using this
  rw [← hl] at h2 hok
  exact ⟨rfl, ys, hp.trans (List.perm_append_singleton _ _), hok, h2.wtClose⟩

def PopPost (w0 : World) (K : Nat → Prop) (F : List HP) (g : Nat) (xs : List Int) (e : Ending) (w' : World) : Prop :=
  ∃ m : Int, e = .returned (.iface 3 (.int .i64 m)) ∧ ∃ ys : List Int, (m :: ys).Perm xs ∧ (∀ y ∈ ys, m ≤ y) ∧ HeapOK ys ys.length ∧ St w0 K w' (Wt g ys :: F)

set_option maxHeartbeats 400000 in
theorem hpop_ok {g n : Nat} {xs : List Int} (h : St w0 K w (Wt g xs :: F)) (hh : HeapOK xs xs.length) (hl : xs.length = n + 1) (hn : n < 800) :
    Calls Try.prog 19 #[.iface 45 (.pointer (some ⟨g, 0, none⟩))] w (PopPost w0 K F g xs) := by
  obtain ⟨v, h⟩ := h.wtOpen
  rw [hl] at h hh
  obtain ⟨b, off, cap, rfl, _⟩ := h.f1.rowOpen (by omega)
  have c1 : w.cell? ⟨g, 0, none⟩ = some (.slice (some ⟨b, off, none⟩) (n + 1) cap) := h.cellv rfl
  have m2 := m_len c1
  have m3 := m_swap c1
  have hl := Lib.hid hl
  go_enter Try.func19, Try.ntmps19
  go_wp2_with fail
  refine (len_ok _ _ _ _).mono ?_
  rintro e w2 ⟨rfl, rfl⟩
  go_wp2_with fail
  refine (swap_ok h.f1 (by omega) (by omega) (by omega) (by omega)).mono ?_
  rintro e w2 ⟨rfl, h2⟩
  clear m2 m3 c1
  rw [Int.toNat_natCast, show (0 : Int).toNat = 0 from rfl] at h2
  have hl := hl.out
  have dinv : DownInv (sw xs 0 n) n 0 := by
    refine ⟨fun k k0 kn kp => ?_, fun h0 => absurd h0 (by omega)⟩
    rw [sw_get (by omega) (by omega), sw_get (by omega) (by omega), if_neg (by omega), if_neg (by omega), if_neg (by omega), if_neg (by omega)]
    exact hh k k0 (by omega)
  have hl := Lib.hid hl
  go_wp2_with fail
  refine (down_walk h2.f1 (by omega) (by omega) (by omega) dinv).mono ?_
  rintro e w3 ⟨bb, rfl, ys, hp, hrest, hok, h3⟩
  have m4 := m_pop ⟨g, 0, none⟩
  go_wp2_with fail
  refine (pop_ok h3 (by omega)).mono ?_
  rintro e w4 ⟨rfl, v4, h4⟩
  clear m4
  go_wp2_with fail
  go_ret
  have hl := hl.out
  have hly : ys.length = n + 1 := by rw [hp.length_eq, sw_length]; exact hl
  have hlast : ys.getD n 0 = xs.getD 0 0 := by rw [hrest n (Nat.le_refl _), sw_get (by omega) (by omega), if_pos rfl]
  have hsplit : ys = ys.take n ++ [ys.getD n 0] := by
    have h1 := List.take_append_drop n ys
    have h2 : ys.drop n = [ys.getD n 0] := by
      rw [List.drop_eq_getElem_cons (by omega), List.drop_eq_nil_of_le (by omega)]
      simp [show n < ys.length from by omega]
    rw [h2] at h1
    exact h1.symm
  have hperm : (ys.getD n 0 :: ys.take n).Perm xs := by
    refine ((List.perm_append_singleton (ys.getD n 0) (ys.take n)).symm).trans ?_
    rw [← hsplit]
    exact hp.trans (sw_perm (by omega) (by omega))
  have hlt : (ys.take n).length = n := by rw [List.length_take]; omega
  refine ⟨ys.getD n 0, rfl, ys.take n, hperm, ?_, ?_, ?_⟩
  · intro y hy
    have hmem : y ∈ xs := hperm.mem_iff.1 (List.mem_cons_of_mem _ hy)
    obtain ⟨k, hk, rfl⟩ := List.mem_iff_getElem.1 hmem
    have := heap_min hh k (by omega)
    rw [hlast]
    simpa [hk] using this
  · intro k k0 kn
    rw [hlt] at kn
    have := hok k k0 kn
    have g : ∀ j, j < n → (ys.take n).getD j 0 = ys.getD j 0 := fun j hj => by simp [List.getD_eq_getElem?_getD, hj]
    rw [g _ (by omega), g _ kn]
    exact this
  · exact (show St w0 K w4 (Pt g (.cells #[v4] 46 (0, 0)) :: Row 3 1 v4 (ys.take n).length (ints (ys.take n)) :: F) by rw [hlt]; exact h4).wtClose
end
end Go.Proofs.Ytofoibckfkbdoaa
