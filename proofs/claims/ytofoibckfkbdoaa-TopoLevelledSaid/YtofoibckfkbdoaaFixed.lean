/- walk: calls whose answers the document fixes -/
import Derived.Test.YtofoibckfkbdoaaLawReach
import Derived.Test.YtofoibckfkbdoaaFns
set_option linter.unusedSimpArgs false
set_option linter.unusedVariables false
namespace Go.Proofs.Ytofoibckfkbdoaa
open Go.RowKit Go.HG

instance (n : Nat) (E : List (Nat × Nat)) (pre : List Nat) (k : Nat) : Decidable (Avail n E pre k) := by unfold Avail; infer_instance
def nextAv (n : Nat) (E : List (Nat × Nat)) (pre : List Nat) : Option Nat := (List.range n).find? fun k => decide (Avail n E pre k)
/-- The order, counted out. -/
def gr (n : Nat) (E : List (Nat × Nat)) : Nat → List Nat
  | 0 => []
  | m + 1 => match nextAv n E (gr n E m) with | none => gr n E m | some k => gr n E m ++ [k]
theorem nextAv_some {n : Nat} {E : List (Nat × Nat)} {pre : List Nat} {x : Nat} (h : LeastIn n E pre x) : nextAv n E pre = some x := by
  unfold nextAv
  rw [List.find?_range_eq_some]
  exact ⟨by simpa using h.1, List.mem_range.2 h.1.1, fun j hj => by simp only [decide_not, Bool.not_eq_true', decide_eq_false_iff_not]; intro hk; have := h.2 j hk; omega⟩
theorem nextAv_none {n : Nat} {E : List (Nat × Nat)} {pre : List Nat} (h : ∀ k, ¬ Avail n E pre k) : nextAv n E pre = none := by
  unfold nextAv
  rw [List.find?_eq_none]
  intro x _
  simpa using h x
theorem RunSpec.gr_take {n : Nat} {E : List (Nat × Nat)} {ord : List Nat} {lv : List Int} (h : RunSpec n E ord lv) : ∀ m, ord.take m = gr n E m
  | 0 => by simp [gr]
  | m + 1 => by
    have ih := h.gr_take m
    unfold gr
    rw [← ih]
    by_cases hm : m < ord.length
    · rw [nextAv_some (h.pre m ord[m] (List.getElem?_eq_getElem hm)), List.take_succ_eq_append_getElem hm]
    · rw [List.take_of_length_le (by omega), List.take_of_length_le (by omega), nextAv_none h.last]
theorem RunSpec.gr {n : Nat} {E : List (Nat × Nat)} {ord : List Nat} {lv : List Int} (h : RunSpec n E ord lv) : ord = gr n E n := by
  rw [← h.gr_take, List.take_of_length_le (nodup_le h.nd h.lt)]

theorem Rd.of {w0 w : World} {K : Nat → Prop} {L : List HP} {b e : Nat} {cs : Array Value} {fr} (h : St w0 K w (Pt b (.cells cs e fr) :: L)) : Rd w (some ⟨b, 0, none⟩) cs.toList := fun j u hu => ⟨b, 0, rfl, h.lt, h.cellv (by simpa using hu)⟩

def FixedPost (w : World) (e : Ending) (w' : World) : Prop := e = .returned (.bool true) ∧ St w No w' []
set_option maxHeartbeats 1000000 in
theorem fixed_ok (w : World) : Calls Try.prog 7 #[] w (FixedPost w) := by
  go_enter Try.func7, Try.ntmps7
  go_wp2_with fail
  have h0 := (St.refl w No).alloc (.cells #[.int .i64 2, .int .i64 0] 35)
  refine (order_ok 3 1 1 _ [(2, 0)] _ (by omega) rfl (by omega) (Rd.of h0)).mono ?_
  rintro e w1 ⟨ord, lv, hs, hh⟩
  have ho := hs.gr
  rw [show gr 3 (edges 3 [(2, 0)]) 3 = [1, 2, 0] by decide] at ho
  subst ho
  obtain ⟨hlt, -⟩ | ⟨-, vo, rfl, h1⟩ := hh
  · exact absurd hlt (by decide)
  have h1 := St.drop1 (h0.frameNil _ _ h1).f1
  clear h0 hs
  go_wp2_with fail
  have h2 := h1.alloc (.cells #[.int .i64 0, .int .i64 1, .int .i64 1, .int .i64 0] 35)
  refine (order_ok 2 2 2 _ [(0, 1), (1, 0)] _ (by omega) rfl (by omega) (Rd.of h2)).mono ?_
  rintro e w2 ⟨ord, lv, hs, hh⟩
  have ho := hs.gr
  rw [show gr 2 (edges 2 [(0, 1), (1, 0)]) 2 = [] by decide] at ho
  subst ho
  obtain ⟨-, rfl, h3⟩ | ⟨hlt, -⟩ := hh
  rotate_left
  · exact absurd hlt (by decide)
  have h3 := St.drop1 (h2.frameNil _ _ h3)
  clear h1 h2 hs
  go_wp2_with fail
  have h4 := h3.alloc (.cells #[.int .i64 0, .int .i64 1, .int .i64 1, .int .i64 2] 35)
  refine (levels_ok 3 2 2 _ [(0, 1), (1, 2)] _ (by omega) rfl (by omega) (Rd.of h4)).mono ?_
  rintro e w3 ⟨ord, lv, hs, hh⟩
  have ho := hs.gr
  rw [show edges 3 [(0, 1), (1, 2)] = [(0, 1), (1, 2)] by decide] at hs ho
  rw [show gr 3 [(0, 1), (1, 2)] 3 = [0, 1, 2] by decide] at ho
  subst ho
  obtain ⟨hlt, -⟩ | ⟨-, vl, rfl, h5⟩ := hh
  · exact absurd hlt (by decide)
  have hv : lv.getD 2 0 = 2 := by
    have a1 := hs.lv1 (0, 1) (by simp) (by simp)
    have a2 := hs.lv1 (1, 2) (by simp) (by simp)
    have a3 := hs.lvb 2 2 (by simp)
    have a4 := (hs.lv2 0 (by omega)).1
    simp only at a1 a2
    omega
  have hvl := hs.lvl
  have h5 := St.f1 (St.drop1 (h4.frameNil _ _ h5).f1)
  have h5 : St w No w3 [_, Row 3 1 vl 3 (ints lv)] := h5
  clear h3 h4 hs
  go_wp2_with fail
  have h6 := h5.alloc (.cells #[.int .i64 1, .int .i64 1, .int .i64 1, .int .i64 2] 35)
  refine (left_ok 3 2 2 _ [(1, 1), (1, 2)] _ (by omega) rfl (by omega) (Rd.of h6)).mono ?_
  rintro e w4 ⟨ord, lv4, vf, hs, rfl, h7⟩
  have ho := hs.gr
  rw [show gr 3 (edges 3 [(1, 1), (1, 2)]) 3 = [0] by decide] at ho
  subst ho
  have h7 := St.drop1 (h6.frameNil _ _ h7).f1
  have h7 : St w No w4 [Row 3 1 vf 2 [.int .i64 1, .int .i64 2], Row 3 1 vo 3 [.int .i64 1, .int .i64 2, .int .i64 0], Row 3 1 vl 3 (ints lv)] := h7
  clear h5 h6 hs
  have HV := Lib.hid hv
  clear hv
  obtain ⟨b1, o1, k1, rfl, c1, -⟩ := h7.rowOpen (by omega)
  obtain ⟨b2, o2, k2, rfl, c2, -⟩ := h7.f1.rowOpen (by omega)
  obtain ⟨b3, o3, k3, rfl, c3, -⟩ := h7.f2.rowOpen (by omega)
  have d1 := c1 0 _ rfl
  have d2 := c2 0 _ rfl
  have d3 := c2 2 _ rfl
  have d4 : w4.cell? ⟨b3, o3 + 2, none⟩ = some (.int .i64 2) := by
    refine c3 2 _ ?_
    rw [← HV.out, List.getD_eq_getElem?_getD]
    simp only [ints, List.getElem?_map]
    rw [List.getElem?_eq_getElem (by omega)]
    simp
  rw [Nat.add_zero] at d1 d2
  clear c1 c2 c3 HV
  go_wp2_with fail
  have h8 := h7.alloc (.cells #[.int .i64 0, .int .i64 1] 35)
  refine (reach_ok 3 0 1 1 _ [(0, 1)] _ (by omega) (by omega) rfl (by omega) (Rd.of h8)).mono ?_
  rintro e w5 ⟨sn, vr, hs, rfl, h9⟩
  have hsn : seenTo 3 sn = [1] := by
    have e1 : ∀ k, sn k = true ↔ k = 1 := by
      intro k
      rw [hs k, show edges 3 [(0, 1)] = [(0, 1)] by decide]
      constructor
      · intro h
        cases h with
        | single h => simpa using h
        | tail _ h => simp at h; exact h.2
      · rintro rfl; exact .single (by simp)
    have e2 : sn = fun k => k == 1 := by funext k; rw [Bool.eq_iff_iff, e1 k]; simp
    rw [e2]
    decide
  rw [hsn] at h9
  have h9 : St _ No w5 [Row 3 1 vr 1 [.int .i64 1]] := h9
  obtain ⟨a9, c9, rfl⟩ := h9.rowForm
  clear hs hsn
  have h10 : St w No w5 [] := St.right (L1 := [_, _, _, _, _]) (L2 := []) (h8.frameNil _ _ h9)
  clear h7 h8 h9 d1 d2 d3 d4
  go_wp2_with fail
  go_ret
  exact ⟨rfl, h10⟩
end Go.Proofs.Ytofoibckfkbdoaa
