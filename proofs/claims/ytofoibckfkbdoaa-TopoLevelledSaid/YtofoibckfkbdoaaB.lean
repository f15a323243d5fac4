/- walks: container/heap's up -/
import Derived.Test.YtofoibckfkbdoaaA
namespace Go.Proofs.Ytofoibckfkbdoaa
open Go.RowKit Go.HG

section
variable {w0 w : World} {K : Nat → Prop} {F : List HP}

def UpRel (w0 : World) (K : Nat → Prop) (F : List HP) (g b off cap n : Nat) (xs : List Int) (u : Value) (wr : World) : Prop :=
  ∃ (j : Nat) (ys : List Int), u = .int .i64 j ∧ j < n ∧ ys.Perm xs ∧ UpInv ys n j ∧ St w0 K wr (Pt g (.cells #[.slice (some ⟨b, off, none⟩) n cap] 46 (0, 0)) :: Row 3 1 (.slice (some ⟨b, off, none⟩) n cap) n (ints ys) :: F)
def UpPost (w0 : World) (K : Nat → Prop) (F : List HP) (g b off cap n : Nat) (xs : List Int) (e : Ending) (w' : World) : Prop :=
  e = .returned (.tuple #[]) ∧ ∃ ys : List Int, ys.Perm xs ∧ HeapOK ys n ∧ St w0 K w' (Pt g (.cells #[.slice (some ⟨b, off, none⟩) n cap] 46 (0, 0)) :: Row 3 1 (.slice (some ⟨b, off, none⟩) n cap) n (ints ys) :: F)

set_option maxHeartbeats 400000 in
theorem up_walk {g b off cap n : Nat} {xs : List Int} {j : Nat} (h : St w0 K w (Pt g (.cells #[.slice (some ⟨b, off, none⟩) n cap] 46 (0, 0)) :: Row 3 1 (.slice (some ⟨b, off, none⟩) n cap) n (ints xs) :: F))
    (hj : j < n) (hn : n < 1000) (hinv : UpInv xs n j) :
    Calls Try.prog 21 #[.iface 45 (.pointer (some ⟨g, 0, none⟩)), .int .i64 j] w (UpPost w0 K F g b off cap n xs) := by
  go_enter Try.func21, Try.ntmps21
  go_wp2_with fail
  go_loopw [1] (UpRel w0 K F g b off cap n xs) (fun u _ => (intOf u).toNat)
  case atStart => exact ⟨j, xs, rfl, hj, .refl _, hinv, h⟩
  case round =>
    clear h hinv hj
    obtain ⟨j, ys, rfl, hj, hp, hinv, h⟩ := hrel
    have hl : ys.length = n := by have := (h.drop1).rowLen; simpa [ints] using this
    by_cases hj0 : j = 0
    · subst hj0
      go_wp2_with fail
      go_end0
      exact ⟨rfl, ys, hp, up_done0 hinv, h⟩
    · obtain ⟨j, rfl⟩ : ∃ m, j = m + 1 := ⟨j - 1, by omega⟩
      have e1 : (((j + 1 : Nat) : Int) - 1) = (j : Int) := by omega
      have e2 : ((((j : Int) / 2)) == ((j + 1 : Nat) : Int)) = false := by simp; omega
      have e3 : (((j + 1 : Nat) : Int)).toNat = j + 1 := by omega
      have e4 : ((j : Int) / 2).toNat = j / 2 := by omega
      have c0 : wr.cell? ⟨g, 0, none⟩ = some (.slice (some ⟨b, off, none⟩) n cap) := h.cellv rfl
      have m2 := m_less c0
      by_cases hlt : ys.getD (j + 1) 0 < ys.getD (j / 2) 0
      · go_wp2_with fail
        refine (less_ok (bv := true) h.f1 (by omega) (by omega) (by omega) (by omega) (by simpa [e3, e4] using hlt)).mono ?_
        rintro e w1 ⟨rfl, h1⟩
        have c1 : w1.cell? ⟨g, 0, none⟩ = some (.slice (some ⟨b, off, none⟩) n cap) := h1.f1.cellv rfl
        have m3 := m_swap c1
        clear m2 c0
        go_wp2_with fail
        refine (swap_ok h1 (by omega) (by omega) (by omega) (by omega)).mono ?_
        rintro e w2 ⟨rfl, h2⟩
        clear m3 c1
        go_wp2_with fail
        go_roundw
        case rel =>
          refine ⟨j / 2, sw ys (j / 2) (j + 1), by go_num, by omega, (sw_perm (by omega) (by omega)).trans hp, up_step (by omega) hj (by omega) hinv hlt, ?_⟩
          rw [e4, show ((j : Int) + 1).toNat = j + 1 from by omega] at h2
          exact h2.f1
        case measure => simp [intOf]; omega
      · go_wp2_with fail
        refine (less_ok (bv := false) h.f1 (by omega) (by omega) (by omega) (by omega) (by simpa [e3, e4] using hlt)).mono ?_
        rintro e w1 ⟨rfl, h1⟩
        clear m2 c0
        go_wp2_with fail
        go_end0
        exact ⟨rfl, ys, hp, up_done hinv (by rw [Nat.add_sub_cancel]; omega), h1.f1⟩
end
end Go.Proofs.Ytofoibckfkbdoaa
