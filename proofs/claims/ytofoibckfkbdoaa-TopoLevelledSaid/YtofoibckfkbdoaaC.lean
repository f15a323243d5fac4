/- walks: container/heap's down -/
import Derived.Test.YtofoibckfkbdoaaB
namespace Go.Proofs.Ytofoibckfkbdoaa
open Go.RowKit Go.HG

section
variable {w0 w : World} {K : Nat → Prop} {F : List HP}

def DnRel (w0 : World) (K : Nat → Prop) (F : List HP) (g b off cap m n : Nat) (xs : List Int) (u : Value) (wr : World) : Prop :=
  ∃ (i : Nat) (ys : List Int), u = .int .i64 i ∧ i ≤ n ∧ ys.Perm xs ∧ (∀ k, n ≤ k → ys.getD k 0 = xs.getD k 0) ∧ DownInv ys n i ∧ St w0 K wr (Pt g (.cells #[.slice (some ⟨b, off, none⟩) m cap] 46 (0, 0)) :: Row 3 1 (.slice (some ⟨b, off, none⟩) m cap) m (ints ys) :: F)
def DnPost (w0 : World) (K : Nat → Prop) (F : List HP) (g b off cap m n : Nat) (xs : List Int) (e : Ending) (w' : World) : Prop :=
  ∃ bb, e = .returned (.bool bb) ∧ ∃ ys : List Int, ys.Perm xs ∧ (∀ k, n ≤ k → ys.getD k 0 = xs.getD k 0) ∧ HeapOK ys n ∧ St w0 K w' (Pt g (.cells #[.slice (some ⟨b, off, none⟩) m cap] 46 (0, 0)) :: Row 3 1 (.slice (some ⟨b, off, none⟩) m cap) m (ints ys) :: F)

set_option maxHeartbeats 1000000 in
theorem down_walk {g b off cap m n : Nat} {xs : List Int} (h : St w0 K w (Pt g (.cells #[.slice (some ⟨b, off, none⟩) m cap] 46 (0, 0)) :: Row 3 1 (.slice (some ⟨b, off, none⟩) m cap) m (ints xs) :: F))
    (hn : n ≤ m) (hm : m < 1000) (hm0 : 0 < m) (hinv : DownInv xs n 0) :
    Calls Try.prog 22 #[.iface 45 (.pointer (some ⟨g, 0, none⟩)), .int .i64 0, .int .i64 n] w (DnPost w0 K F g b off cap m n xs) := by
  go_enter Try.func22, Try.ntmps22
  go_wp2_with fail
  go_loopw [7] (DnRel w0 K F g b off cap m n xs) (fun u _ => n - (intOf u).toNat)
  case atStart => exact ⟨0, xs, rfl, by omega, .refl _, fun _ _ => rfl, hinv, h⟩
  case round =>
    clear h hinv
    obtain ⟨i, ys, rfl, hi, hp, hrest, hinv, h⟩ := hrel
    have hl : ys.length = m := by have := (h.drop1).rowLen; simpa [ints] using this
    by_cases hj : n ≤ 2 * i + 1
    · have b1 : (n : Int) ≤ 2 * (i : Int) + 1 := by omega
      go_wp2_with fail
      go_ret
      exact ⟨_, rfl, ys, hp, hrest, down_done1 hinv hj, h⟩
    · have b0 : (2 * (i : Int) + 1) < (n : Int) := by omega
      have c0 : wr.cell? ⟨g, 0, none⟩ = some (.slice (some ⟨b, off, none⟩) m cap) := h.cellv rfl
      have m2 := m_less c0
      have step : ∀ (j : Nat) (w1 : World), (j - 1) / 2 = i → 0 < j → j < n → (∀ k, 0 < k → k < n → (k - 1) / 2 = i → ys.getD j 0 ≤ ys.getD k 0) → ys.getD j 0 < ys.getD i 0 →
          St w0 K w1 (Row 3 1 (.slice (some ⟨b, off, none⟩) m cap) m (ints (sw ys i j)) :: Pt g (.cells #[.slice (some ⟨b, off, none⟩) m cap] 46 (0, 0)) :: F) → DnRel w0 K F g b off cap m n xs (.int .i64 j) w1 := by
        intro j w1 a1 a2 a3 a4 a5 a6
        refine ⟨j, sw ys i j, rfl, by omega, (sw_perm (by omega) (by omega)).trans hp, ?_, down_step a1 a2 a3 (by omega) hinv a4 a5, a6.f1⟩
        intro k hk
        rw [sw_get (by omega) (by omega), if_neg (by omega), if_neg (by omega)]
        exact hrest k hk
      have hstep := Lib.hid step
      clear step
      by_cases hj2 : 2 * i + 2 < n
      · have b2 : (2 * (i : Int) + 1 + 1) < (n : Int) := by omega
        by_cases hlt : ys.getD (2 * i + 2) 0 < ys.getD (2 * i + 1) 0
        · have hmin : ∀ k, 0 < k → k < n → (k - 1) / 2 = i → ys.getD (2 * i + 2) 0 ≤ ys.getD k 0 := by
            intro k k0 kn kp
            have : k = 2 * i + 1 ∨ k = 2 * i + 2 := by omega
            rcases this with rfl | rfl <;> omega
          have hmin := Lib.hid hmin
          by_cases hlt2 : ys.getD (2 * i + 2) 0 < ys.getD i 0
          · go_wp2_with fail
            refine (less_ok (bv := true) h.f1 (by omega) (by omega) (by omega) (by omega) (by simpa [show (2 * (i : Int) + 1 + 1).toNat = 2 * i + 2 from by omega, show (2 * (i : Int) + 1).toNat = 2 * i + 1 from by omega] using hlt)).mono ?_
            rintro e w1 ⟨rfl, h1⟩
            have c1 : w1.cell? ⟨g, 0, none⟩ = some (.slice (some ⟨b, off, none⟩) m cap) := h1.f1.cellv rfl
            have m3 := m_less c1
            clear m2 c0
            go_wp2_with fail
            refine (less_ok (bv := true) h1 (by omega) (by omega) (by omega) (by omega) (by simpa [show (2 * (i : Int) + 1 + 1).toNat = 2 * i + 2 from by omega] using hlt2)).mono ?_
            rintro e w2 ⟨rfl, h2⟩
            have c2 : w2.cell? ⟨g, 0, none⟩ = some (.slice (some ⟨b, off, none⟩) m cap) := h2.f1.cellv rfl
            have m4 := m_swap c2
            clear m3 c1
            go_wp2_with fail
            refine (swap_ok h2 (by omega) (by omega) (by omega) (by omega)).mono ?_
            rintro e w3 ⟨rfl, h3⟩
            clear m4 c2
            go_wp2_with fail
            go_roundw
            case rel =>
              rw [show (2 * (i : Int) + 1 + 1).toNat = 2 * i + 2 from by omega, Int.toNat_natCast] at h3
              rw [show (2 * (i : Int) + 1 + 1) = ((2 * i + 2 : Nat) : Int) from by omega]
              exact hstep.out _ _ (by omega) (by omega) (by omega) hmin.out hlt2 h3
            case measure => simp [intOf]; omega
          · go_wp2_with fail
            refine (less_ok (bv := true) h.f1 (by omega) (by omega) (by omega) (by omega) (by simpa [show (2 * (i : Int) + 1 + 1).toNat = 2 * i + 2 from by omega, show (2 * (i : Int) + 1).toNat = 2 * i + 1 from by omega] using hlt)).mono ?_
            rintro e w1 ⟨rfl, h1⟩
            have c1 : w1.cell? ⟨g, 0, none⟩ = some (.slice (some ⟨b, off, none⟩) m cap) := h1.f1.cellv rfl
            have m3 := m_less c1
            clear m2 c0
            go_wp2_with fail
            refine (less_ok (bv := false) h1 (by omega) (by omega) (by omega) (by omega) (by simpa [show (2 * (i : Int) + 1 + 1).toNat = 2 * i + 2 from by omega] using hlt2)).mono ?_
            rintro e w2 ⟨rfl, h2⟩
            clear m3 c1
            go_wp2_with fail
            go_ret
            exact ⟨_, rfl, ys, hp, hrest, down_done hinv hmin.out (by omega), h2.f1⟩
        · have hmin : ∀ k, 0 < k → k < n → (k - 1) / 2 = i → ys.getD (2 * i + 1) 0 ≤ ys.getD k 0 := by
            intro k k0 kn kp
            have : k = 2 * i + 1 ∨ k = 2 * i + 2 := by omega
            rcases this with rfl | rfl <;> omega
          have hmin := Lib.hid hmin
          by_cases hlt2 : ys.getD (2 * i + 1) 0 < ys.getD i 0
          · go_wp2_with fail
            refine (less_ok (bv := false) h.f1 (by omega) (by omega) (by omega) (by omega) (by simpa [show (2 * (i : Int) + 1 + 1).toNat = 2 * i + 2 from by omega, show (2 * (i : Int) + 1).toNat = 2 * i + 1 from by omega] using hlt)).mono ?_
            rintro e w1 ⟨rfl, h1⟩
            have c1 : w1.cell? ⟨g, 0, none⟩ = some (.slice (some ⟨b, off, none⟩) m cap) := h1.f1.cellv rfl
            have m3 := m_less c1
            clear m2 c0
            go_wp2_with fail
            refine (less_ok (bv := true) h1 (by omega) (by omega) (by omega) (by omega) (by simpa [show (2 * (i : Int) + 1).toNat = 2 * i + 1 from by omega] using hlt2)).mono ?_
            rintro e w2 ⟨rfl, h2⟩
            have c2 : w2.cell? ⟨g, 0, none⟩ = some (.slice (some ⟨b, off, none⟩) m cap) := h2.f1.cellv rfl
            have m4 := m_swap c2
            clear m3 c1
            go_wp2_with fail
            refine (swap_ok h2 (by omega) (by omega) (by omega) (by omega)).mono ?_
            rintro e w3 ⟨rfl, h3⟩
            clear m4 c2
            go_wp2_with fail
            go_roundw
            case rel =>
              rw [show (2 * (i : Int) + 1).toNat = 2 * i + 1 from by omega, Int.toNat_natCast] at h3
              rw [show (2 * (i : Int) + 1) = ((2 * i + 1 : Nat) : Int) from by omega]
              exact hstep.out _ _ (by omega) (by omega) (by omega) hmin.out hlt2 h3
            case measure => simp [intOf]; omega
          · go_wp2_with fail
            refine (less_ok (bv := false) h.f1 (by omega) (by omega) (by omega) (by omega) (by simpa [show (2 * (i : Int) + 1 + 1).toNat = 2 * i + 2 from by omega, show (2 * (i : Int) + 1).toNat = 2 * i + 1 from by omega] using hlt)).mono ?_
            rintro e w1 ⟨rfl, h1⟩
            have c1 : w1.cell? ⟨g, 0, none⟩ = some (.slice (some ⟨b, off, none⟩) m cap) := h1.f1.cellv rfl
            have m3 := m_less c1
            clear m2 c0
            go_wp2_with fail
            refine (less_ok (bv := false) h1 (by omega) (by omega) (by omega) (by omega) (by simpa [show (2 * (i : Int) + 1).toNat = 2 * i + 1 from by omega] using hlt2)).mono ?_
            rintro e w2 ⟨rfl, h2⟩
            clear m3 c1
            go_wp2_with fail
            go_ret
            exact ⟨_, rfl, ys, hp, hrest, down_done hinv hmin.out (by omega), h2.f1⟩
      · have b2 : (n : Int) ≤ (2 * (i : Int) + 1 + 1) := by omega
        have hmin : ∀ k, 0 < k → k < n → (k - 1) / 2 = i → ys.getD (2 * i + 1) 0 ≤ ys.getD k 0 := by
          intro k k0 kn kp
          have : k = 2 * i + 1 := by omega
          subst this; omega
        have hmin := Lib.hid hmin
        by_cases hlt2 : ys.getD (2 * i + 1) 0 < ys.getD i 0
        · go_wp2_with fail
          refine (less_ok (bv := true) h.f1 (by omega) (by omega) (by omega) (by omega) (by simpa [show (2 * (i : Int) + 1).toNat = 2 * i + 1 from by omega] using hlt2)).mono ?_
          rintro e w2 ⟨rfl, h2⟩
          have c2 : w2.cell? ⟨g, 0, none⟩ = some (.slice (some ⟨b, off, none⟩) m cap) := h2.f1.cellv rfl
          have m4 := m_swap c2
          clear m2 c0
          go_wp2_with fail
          refine (swap_ok h2 (by omega) (by omega) (by omega) (by omega)).mono ?_
          rintro e w3 ⟨rfl, h3⟩
          clear m4 c2
          go_wp2_with fail
          go_roundw
          case rel =>
            rw [show (2 * (i : Int) + 1).toNat = 2 * i + 1 from by omega, Int.toNat_natCast] at h3
            rw [show (2 * (i : Int) + 1) = ((2 * i + 1 : Nat) : Int) from by omega]
            exact hstep.out _ _ (by omega) (by omega) (by omega) hmin.out hlt2 h3
          case measure => simp [intOf]; omega
        · go_wp2_with fail
          refine (less_ok (bv := false) h.f1 (by omega) (by omega) (by omega) (by omega) (by simpa [show (2 * (i : Int) + 1).toNat = 2 * i + 1 from by omega] using hlt2)).mono ?_
          rintro e w2 ⟨rfl, h2⟩
          clear m2 c0
          go_wp2_with fail
          go_ret
          exact ⟨_, rfl, ys, hp, hrest, down_done hinv hmin.out (by omega), h2.f1⟩
end
end Go.Proofs.Ytofoibckfkbdoaa
