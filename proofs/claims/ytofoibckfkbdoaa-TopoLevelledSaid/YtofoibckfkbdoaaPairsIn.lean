/- the row's step: a slice of pairs that came in -/
import Derived.Test.YtofoibckfkbdoaaLawA
import Derived.Test.YtofoibckfkbdoaaRows
import Derived.WalkKit
import Derived.ProofKit
import Derived.OpenShut
import Derived.ChangeOld
import Derived.Below
import Derived.Deep.SlicePairs
set_option linter.unusedVariables false
namespace Go.Proofs.Ytofoibckfkbdoaa
open Go.ChangeShapes Go.WideShapes Go.ChangeAt Go.RowKit Go.Deep Go.HG

theorem own : ownKnob Try.prog.godebug = none := by kernel_rfl
theorem laidOut : laidOutB Try.prog = true := by kernel_rfl
theorem cells35 : Try.prog.cellsOf 35 = 2 := by kernel_rfl
theorem cells3 : Try.prog.cellsOf 3 = 1 := by kernel_rfl

theorem pairs_in {H : Type} {enc : TypeId × Value → H} {W : World} {a : Option Addr} {len cap : Nat} {d : DataW H} {p : List MemPlace} {hd : Bool}
    (h : DataW.Trod enc Try.prog W 0 (fun _ => true) hd 22 (.slice a len cap) d p) : ∃ ps : List (Int × Int), ps.length = len ∧ Rd W a (pcells ps) := by
  obtain ⟨n, h⟩ := h
  have hlt := DataW.trod_lt n _ _ _ h
  rcases open_slice_pairs Try.underlying22 Try.underlying35 cells35 rfl rfl cells3 cells3 h with ⟨hc, hx⟩ | ⟨x, l, c, m, k, V0, V1, D0, D1, P0, P1, hc, _, hl, hm, hmm, hx, hall⟩
  · simp [Value.cells] at hc
    obtain ⟨rfl, rfl, rfl⟩ := hc
    exact ⟨[], rfl, Rd.nil _ _⟩
  · simp [Value.cells] at hc
    obtain ⟨rfl, rfl, rfl⟩ := hc
    simp only [if_true] at hmm
    subst hmm
    have hcells : ∀ i, i < len → ∃ q : Int × Int, W.cell? (x.add (i * 2)) = some (.int .i64 q.1) ∧ W.cell? (x.add (i * 2 + 1)) = some (.int .i64 q.2) := by
      intro i hi
      obtain ⟨e1, e2, e3, e4⟩ := hall i (by omega)
      obtain ⟨N0, hV0, _⟩ := DataW.trod_int Try.underlying3 e3
      obtain ⟨N1, hV1, _⟩ := DataW.trod_int Try.underlying3 e4
      simp only [List.cons.injEq, and_true] at hV0 hV1
      exact ⟨(N0, N1), by rw [e1, hV0], by rw [e2, hV1]⟩
    obtain ⟨q, hq⟩ := choose_lt hcells
    obtain ⟨xb, xo, xs⟩ := x
    refine ⟨(List.range len).map q, by simp, ?_⟩
    intro j u hu
    have hj : j < len * 2 := by
      have h1 := (List.getElem?_eq_some_iff.1 hu).1
      rw [pcells_length] at h1
      simpa using h1
    have hspot : xs = none := by
      have := World.cell?_spot (hq 0 (by omega)).1
      simpa [Addr.add] using this
    subst hspot
    have hb : xb < W.heap.size := by
      have := (hq 0 (by omega)).1
      exact World.block_lt_of_cell? _ _ this
    refine ⟨xb, xo, rfl, hb, ?_⟩
    have hk : j / 2 < ((List.range len).map q).length := by simp; omega
    have hg := pcells_get hk
    rw [List.getElem_map, List.getElem_range] at hg
    have hc := hq (j / 2) (by omega)
    rcases Nat.mod_two_eq_zero_or_one j with h2 | h2
    · have e : j = j / 2 * 2 := by omega
      rw [e] at hu ⊢
      rw [hg.1] at hu
      cases hu
      have h1 := hc.1
      rw [add_plain] at h1
      exact h1
    · have e : j = j / 2 * 2 + 1 := by omega
      rw [e] at hu ⊢
      rw [hg.2] at hu
      cases hu
      have h1 := hc.2
      rw [add_plain] at h1
      exact h1
end Go.Proofs.Ytofoibckfkbdoaa
