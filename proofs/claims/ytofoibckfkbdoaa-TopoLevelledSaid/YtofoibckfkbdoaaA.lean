/- walks: the heap of numbers: its methods, container/heap -/
import Derived.Test.YtofoibckfkbdoaaProg
import Derived.Test.YtofoibckfkbdoaaHeap
import Derived.Deep.QuietTactic
import Derived.BigQuiet
import Derived.Lib.Hide
import Derived.RegionTactic
import Derived.BigRegion
namespace Go.Proofs.Ytofoibckfkbdoaa
open Go.RowKit Go.HG

theorem m_push (a : Addr) (w : World) : (method 176 45 (.pointer (some a)) "Push").run Try.prog w = .ok (41, .pointer (some a)) w := by kernel_rfl
theorem m_pop (a : Addr) (w : World) : (method 176 45 (.pointer (some a)) "Pop").run Try.prog w = .ok (40, .pointer (some a)) w := by kernel_rfl
theorem m_len0 (a : Addr) (w : World) : (method 176 45 (.pointer (some a)) "Len").run Try.prog w = (Sem.load .plain a (fun v => .pure (18, v))).run Try.prog w := by kernel_rfl
theorem m_less0 (a : Addr) (w : World) : (method 176 45 (.pointer (some a)) "Less").run Try.prog w = (Sem.load .plain a (fun v => .pure (39, v))).run Try.prog w := by kernel_rfl
theorem m_swap0 (a : Addr) (w : World) : (method 176 45 (.pointer (some a)) "Swap").run Try.prog w = (Sem.load .plain a (fun v => .pure (42, v))).run Try.prog w := by kernel_rfl
theorem run_load_pure {α : Type} (P : Program) (w : World) (a : Addr) (v : Value) (f : Value → α) (h : w.cell? a = some v) : (Sem.load .plain a (fun v => .pure (f v))).run P w = .ok (f v) w := by
  simp [Sem.run, h]
theorem m_len {a : Addr} {w : World} {v : Value} (h : w.cell? a = some v) : (method 176 45 (.pointer (some a)) "Len").run Try.prog w = .ok (18, v) w := (m_len0 a w).trans (run_load_pure _ _ _ _ _ h)
theorem m_less {a : Addr} {w : World} {v : Value} (h : w.cell? a = some v) : (method 176 45 (.pointer (some a)) "Less").run Try.prog w = .ok (39, v) w := (m_less0 a w).trans (run_load_pure _ _ _ _ _ h)
theorem m_swap {a : Addr} {w : World} {v : Value} (h : w.cell? a = some v) : (method 176 45 (.pointer (some a)) "Swap").run Try.prog w = .ok (42, v) w := (m_swap0 a w).trans (run_load_pure _ _ _ _ _ h)

section
variable {w0 w : World} {K : Nat → Prop} {F : List HP}

set_option maxHeartbeats 400000 in
theorem less_walk (g off cap n : Nat) (x y : Int) (i j : Nat) (w : World)
    (c1 : w.cell? ⟨g, off + i, none⟩ = some (.int .i64 x)) (c2 : w.cell? ⟨g, off + j, none⟩ = some (.int .i64 y)) (b1 : (i : Int) < (n : Int)) (b2 : (j : Int) < (n : Int)) :
    Calls Try.prog 39 #[.slice (some ⟨g, off, none⟩) n cap, .int .i64 i, .int .i64 j] w fun e w' => e = .returned (.bool (decide (x < y))) ∧ ∃ k, w.drewN k = w' := by
  go_enter Try.func39, Try.ntmps39
  go_wp2_with fail
  go_quiet (fail)
  go_wp2_with fail
  go_ret
  exact ⟨rfl, _, rfl⟩

theorem less_ok {g off cap n : Nat} {xs : List Int} {i j : Int} (h : St w0 K w (Row 3 1 (.slice (some ⟨g, off, none⟩) n cap) n (ints xs) :: F)) (hi0 : 0 ≤ i) (hi : i < n) (hj0 : 0 ≤ j) (hj : j < n) {bv : Bool} (hb : decide (xs.getD i.toNat 0 < xs.getD j.toNat 0) = bv) :
    Calls Try.prog 39 #[.slice (some ⟨g, off, none⟩) n cap, .int .i64 i, .int .i64 j] w fun e w' => e = .returned (.bool bv) ∧ St w0 K w' (Row 3 1 (.slice (some ⟨g, off, none⟩) n cap) n (ints xs) :: F) := by
  subst hb
  obtain ⟨i, rfl⟩ := Int.eq_ofNat_of_zero_le hi0
  obtain ⟨j, rfl⟩ := Int.eq_ofNat_of_zero_le hj0
  have hl : xs.length = n := by have := h.rowLen; simpa [ints] using this
  obtain ⟨g', off', cap', hv, hc, _⟩ := h.rowOpen (by omega)
  cases hv
  refine (less_walk g off cap n (xs.getD i 0) (xs.getD j 0) i j w (hc i _ (ints_get (by omega))) (hc j _ (ints_get (by omega))) hi hj).mono ?_
  rintro e w' ⟨rfl, k, rfl⟩
  exact ⟨rfl, h.drewN k⟩

set_option maxHeartbeats 400000 in
theorem swap_walk (g off cap n : Nat) (x y : Int) (i j : Nat) (w : World)
    (c1 : w.cell? ⟨g, off + i, none⟩ = some (.int .i64 x)) (c2 : w.cell? ⟨g, off + j, none⟩ = some (.int .i64 y)) (f1 : w.frozen? ⟨g, off + i, none⟩ = false) (f2 : w.frozen? ⟨g, off + j, none⟩ = false) (b1 : (i : Int) < (n : Int)) (b2 : (j : Int) < (n : Int)) :
    Calls Try.prog 42 #[.slice (some ⟨g, off, none⟩) n cap, .int .i64 i, .int .i64 j] w fun e w' => e = .returned (.tuple #[]) ∧ ((w.setCell ⟨g, off + i, none⟩ (.int .i64 y)).setCell ⟨g, off + j, none⟩ (.int .i64 x)).drew = w' := by
  obtain ⟨v1, hv1⟩ := cell?_setCell_some (w := w) (p := ⟨g, off + i, none⟩) (x := .int .i64 y) (q := ⟨g, off + j, none⟩) (v := .int .i64 y) (by go_simp)
  go_enter Try.func42, Try.ntmps42
  go_wp2_with fail
  go_region
  all_goals (go_end0; exact ⟨rfl, rfl⟩)

theorem swap_ok {g off cap n : Nat} {xs : List Int} {i j : Int} (h : St w0 K w (Row 3 1 (.slice (some ⟨g, off, none⟩) n cap) n (ints xs) :: F)) (hi0 : 0 ≤ i) (hi : i < n) (hj0 : 0 ≤ j) (hj : j < n) :
    Calls Try.prog 42 #[.slice (some ⟨g, off, none⟩) n cap, .int .i64 i, .int .i64 j] w fun e w' => e = .returned (.tuple #[]) ∧ St w0 K w' (Row 3 1 (.slice (some ⟨g, off, none⟩) n cap) n (ints (sw xs i.toNat j.toNat)) :: F) := by
  obtain ⟨i, rfl⟩ := Int.eq_ofNat_of_zero_le hi0
  obtain ⟨j, rfl⟩ := Int.eq_ofNat_of_zero_le hj0
  have hl : xs.length = n := by have := h.rowLen; simpa [ints] using this
  obtain ⟨g', off', cap', hv, hc, hf, _⟩ := h.rowOpen (by omega)
  cases hv
  refine (swap_walk g off cap n (xs.getD i 0) (xs.getD j 0) i j w (hc i _ (ints_get (by omega))) (hc j _ (ints_get (by omega))) (hf _) (hf _) hi hj).mono ?_
  rintro e w' ⟨rfl, rfl⟩
  refine ⟨rfl, ?_⟩
  have h1 := ((h.rowSet i (.int .i64 (xs.getD j 0)) (by omega)).rowSet j (.int .i64 (xs.getD i 0)) (by omega)).drew
  rw [ints_set, ints_set] at h1
  exact h1

theorem len_ok (a : Option Addr) (n cap : Nat) (w : World) : Calls Try.prog 18 #[.slice a n cap] w fun e w' => e = .returned (.int .i64 n) ∧ w = w' := by
  go_enter Try.func18, Try.ntmps18
  go_wp2_with fail
  go_ret
  exact ⟨rfl, rfl⟩
end
end Go.Proofs.Ytofoibckfkbdoaa
