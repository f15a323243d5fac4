/- walk: Reach -/
import Derived.Test.YtofoibckfkbdoaaFns
import Derived.Test.YtofoibckfkbdoaaBfs
import Derived.Deep.LoopGhost
set_option linter.unusedSimpArgs false
set_option linter.unusedVariables false
namespace Go.Proofs.Ytofoibckfkbdoaa
open Go.RowKit Go.HG

theorem info4 : (Try.prog.info? 4).map (fun i => (i.zero, i.size, i.bytes)) = some (some (.bool false), 1, 1) := by kernel_rfl

def bools (n : Nat) (s : Nat → Bool) : List Value := (List.range n).map fun k => .bool (s k)
theorem bools_get {n : Nat} {s : Nat → Bool} {k : Nat} (h : k < n) : (bools n s)[k]? = some (.bool (s k)) := by simp [bools, h]
theorem bools_set {n : Nat} {s : Nat → Bool} {k : Nat} (h : k < n) : (bools n s).set k (.bool true) = bools n (see s k) := by
  apply List.ext_getElem?
  intro i
  rw [List.getElem?_set]
  by_cases e : k = i
  · subst e; simp [bools, see, h]
  · by_cases hi : i < n <;> simp [bools, see, e, Ne.symm e, hi]

theorem made_false {w w0 : World} {K : Nat → Prop} {L : List HP} (h : St w0 K w L) (n : Nat) (hn : n ≤ 256) :
    St w0 K (w.alloc (.cells (madeCells #[.bool false] n) 4)) (Row 4 1 (.slice (some ⟨w.heap.size, 0, none⟩) n n) n (bools n fun _ => false) :: L) := by
  have h1 := h.madeRow (z := .bool false) (sz := 1) 4 n (by unfold maxLen; omega)
  have e1 : (madeCells (Value.bool false).cells (n * 1)) = madeCells #[.bool false] n := by rw [Nat.mul_one]; rfl
  have e2 : (madeCells #[Value.bool false] n).toList = bools n fun _ => false := by
    apply List.ext_getElem? ; intro i
    by_cases hi : i < n <;> simp [madeCells, hi, Nat.mod_one, bools]
  rw [e1, e2] at h1
  exact h1

def ReachPost (w : World) (n f : Nat) (E : List (Nat × Nat)) (e : Ending) (w' : World) : Prop :=
  ∃ (s : Nat → Bool) (vo : Value), (∀ k, s k = true ↔ Leads E f k) ∧ e = .returned vo ∧ St w No w' [Row 3 1 vo (seenTo n s).length (ints (nats (seenTo n s)))]
def ReachA (w : World) (g n f sb : Nat) (E : List (Nat × Nat)) (v1 v2 : Value) (vs : Nat → Value) (m : Nat) (u : Value) (wr : World) : Prop :=
  ∃ (todo : List Nat) (s : Nat → Bool), m ≤ n + 1 ∧ BInv n E f todo s m ∧ St w No wr (Row 3 1 u todo.length (ints (nats todo)) :: Row 4 1 (.slice (some ⟨sb, 0, none⟩) n n) n (bools n s) :: webL g n (nextOf E) (aheadOf n E) v1 v2 vs [])
def ReachB (w : World) (g n f sb i m : Nat) (E : List (Nat × Nat)) (v1 v2 : Value) (vs : Nat → Value) (v u : Value) (wr : World) : Prop :=
  ∃ (j : Nat) (todo : List Nat) (s : Nat → Bool), u = .int .i64 j ∧ j ≤ (outs E i).length ∧ BIn n E f i j todo s m ∧ St w No wr (Row 3 1 v todo.length (ints (nats todo)) :: Row 4 1 (.slice (some ⟨sb, 0, none⟩) n n) n (bools n s) :: webL g n (nextOf E) (aheadOf n E) v1 v2 vs [])
def ReachC (w : World) (n sb : Nat) (s : Nat → Bool) (v u : Value) (wr : World) : Prop :=
  ∃ k : Nat, u = .int .i64 k ∧ k ≤ n ∧ St w No wr [Row 3 1 v (seenTo k s).length (ints (nats (seenTo k s))), Row 4 1 (.slice (some ⟨sb, 0, none⟩) n n) n (bools n s)]
def ReachCut (w : World) (g n sb : Nat) (E : List (Nat × Nat)) (v1 v2 : Value) (vs : Nat → Value) (todo : List Nat) (s : Nat → Bool) (u : Value) (wr : World) : Prop :=
  St w No wr (Row 3 1 u todo.length (ints (nats todo)) :: Row 4 1 (.slice (some ⟨sb, 0, none⟩) n n) n (bools n s) :: webL g n (nextOf E) (aheadOf n E) v1 v2 vs [])

theorem reach_no (n f : Int) (len cap : Nat) (A : Option Addr) (w : World) (hn : n < 0 ∨ 256 < n ∨ f < 0 ∨ n ≤ f) :
    Calls Try.prog 10 #[.int .i64 n, .slice A len cap, .int .i64 f] w fun e w' => e = .returned (.slice none 0 0) ∧ w = w' := by
  by_cases hr : n < 0 ∨ 256 < n
  · go_enter Try.func10, Try.ntmps10
    go_wp2_with fail
    refine (right_no n hr _).mono ?_
    rintro e w1 ⟨rfl, rfl⟩
    go_wp2_with fail
    go_ret
    exact ⟨rfl, rfl⟩
  · obtain ⟨m, rfl⟩ := Int.eq_ofNat_of_zero_le (show 0 ≤ n by omega)
    by_cases hf : f < 0
    · go_enter Try.func10, Try.ntmps10
      go_wp2_with fail
      refine (right_yes m (by omega) _).mono ?_
      rintro e w1 ⟨rfl, rfl⟩
      go_wp2_with fail
      go_ret
      exact ⟨rfl, rfl⟩
    · have h1 : 0 ≤ f := by omega
      have h2 : (m : Int) ≤ f := by omega
      have hm : m ≤ 256 := by omega
      clear hr hf hn
      go_enter Try.func10, Try.ntmps10
      go_wp2_with fail
      refine (right_yes m hm _).mono ?_
      rintro e w1 ⟨rfl, rfl⟩
      go_wp2_with fail
      go_ret
      exact ⟨rfl, rfl⟩

set_option maxHeartbeats 1000000 in
set_option maxRecDepth 100000 in
theorem reach_ok (n f len cap : Nat) (A : Option Addr) (ps : List (Int × Int)) (w : World) (hn : n ≤ 256) (hf : f < n) (hl : ps.length = len) (hlen : len ≤ 300) (hr : Rd w A (pcells ps)) :
    Calls Try.prog 10 #[.int .i64 n, .slice A len cap, .int .i64 f] w (ReachPost w n f (edges n ps)) := by
  have hmk2 := run_make_row' (P := Try.prog) 31 4 (.bool false) 1 Try.underlying31 info4 rfl .i64 .i64 n (by omega) (by omega)
  have hElt : ∀ e ∈ edges n ps, e.1 < n ∧ e.2 < n := fun e he => edges_lt he
  have hMade := made_walk n len cap A ps w hn hl (by omega) hr
  have hEl : (edges n ps).length ≤ 300 := Nat.le_trans (edges_length _ _) (by omega)
  unfold MadePost at hMade
  generalize edges n ps = E at *
  have HM := Lib.hid hMade
  have HElt := Lib.hid hElt
  clear hr hl hMade hElt
  have f0 : (0 : Int) ≤ (f : Int) := by omega
  have f1 : (f : Int) < (n : Int) := by omega
  go_enter Try.func10, Try.ntmps10
  go_wp2_with fail
  refine (right_yes n hn _).mono ?_
  rintro e w1 ⟨rfl, rfl⟩
  go_wp2_with fail
  refine HM.out.mono ?_
  rintro e w1 ⟨g, rfl, h⟩
  clear HM
  obtain ⟨v1, v2, vs, h⟩ := h.webOpen
  have h : St w No w1 (webL g n (nextOf E) (aheadOf n E) v1 v2 vs []) := h
  obtain ⟨n1, m1, k1, rfl, -⟩ := h.f1.rowOpen (by omega)
  go_wp2_with fail
  have h := (made_false h n hn).alloc (.cells #[.int .i64 (f : Int)] 3)
  have h := h.toRow (sz := 1) (off := 0) (cap := 1) 1 (Nat.le_refl _) (by unfold maxLen; omega) (by simp)
  rw [World.size_alloc] at h
  have h : St w No _ (Row 3 1 (.slice (some ⟨w1.heap.size + 1, 0, none⟩) 1 1) [f].length (ints (nats [f])) :: Row 4 1 (.slice (some ⟨w1.heap.size, 0, none⟩) n n) n (bools n fun _ => false) :: webL g n (nextOf E) (aheadOf n E) (.slice (some ⟨n1, m1, none⟩) n k1) v2 vs []) := h
  generalize (w1.alloc (Obj.cells (madeCells #[Value.bool false] n) 4)).alloc (Obj.cells #[Value.int IntKind.i64 (f : Int)] 3) = wq at *
  generalize w1.heap.size = sb at *
  clear hmk2 f0 f1
  go_loopg [9] (n + 1) (fun m u wr => ReachA w g n f sb E (.slice (some ⟨n1, m1, none⟩) n k1) v2 vs m u wr)
  case atStart => exact ⟨[f], fun _ => false, Nat.le_refl _, BInv.start hf, h⟩
  case round =>
    clear h
    obtain ⟨todo, s, hgk, hB, h⟩ := hrel
    obtain ⟨a9, k9, rfl⟩ := h.rowForm
    cases todo with
    | nil =>
      go_wp2_with fail
      go_loopw [13, 70] (ReachC w n sb s) (fun _ u _ => n - (intOf u).toNat)
      case atStart => exact ⟨0, rfl, by omega, St.left (L1 := [_, _]) (h.drop1.addNil 3 1)⟩
      case round =>
        clear h
        obtain ⟨k, rfl, hk, h⟩ := hrel
        have hsl := seenTo_len k s
        by_cases hlt : k < n
        · have d1 : wr.cell? ⟨sb, k, none⟩ = some (.bool (s k)) := by have := row_cell h.f1 k _ (by omega) (bools_get hlt); rwa [Nat.zero_add] at this
          have hki : (k : Int) < (n : Int) := by omega
          have HS := Lib.hid (seenTo_succ k s)
          cases hsk : s k with
          | true =>
            rw [hsk] at d1
            have HSK := Lib.hid hsk
            clear hsk
            go_wp2_with (at_builtin; refine stop_at ?_)
            refine go_on ?_
            refine wl_append ((h.alloc _).f1) Try.underlying24 info3 rfl (by decide) rfl rfl rfl (cell_one_new _ _ _) (by intro u hu; simp at hu; subst hu; rfl) (by unfold maxLen; omega) (by omega) ?_
            intro v' w3 h3 hs3
            clear d1
            go_wp2_with fail
            go_roundw
            case rel =>
              refine ⟨k + 1, by go_num, by omega, ?_⟩
              rw [HS.out, if_pos HSK.out, nats_append, ints_append, List.length_append]
              exact h3.f1.drop1
            case measure => simp [intOf]; omega
          | false =>
            rw [hsk] at d1
            have HSK := Lib.hid hsk
            clear hsk
            go_wp2_with fail
            go_roundw
            case rel =>
              refine ⟨k + 1, by go_num, by omega, ?_⟩
              rw [HS.out, if_neg (by rw [HSK.out]; simp)]
              exact h
            case measure => simp [intOf]; omega
        · have hkn : k = n := by omega
          subst hkn
          go_wp2_with fail
          go_ret
          exact ⟨s, _, hB.spec, rfl, St.left (L1 := [_]) h⟩
    | cons i todo =>
      obtain ⟨m, rfl, hI⟩ := hB.pop
      have hin : i < n := hB.lt i (by simp)
      have htl : todo.length ≤ n := by have := hI.meas; omega
      obtain ⟨b9, o9, k9', hv, hc9, hf9, hnc9, -⟩ := h.rowOpen (by simp)
      cases hv
      have d1 : wr.cell? ⟨b9, o9, none⟩ = some (.int .i64 (i : Int)) := hc9 0 _ (by simp [ints, nats])
      clear hc9 hf9 hB
      simp only [List.length_cons] at h hnc9
      have b1 : (1 : Int) ≤ (todo.length : Int) + 1 := by omega
      have hi0 : (0 : Int) < (todo.length : Int) + 1 := by omega
      go_upto_region 8 with fail
      go_cut [9] (fun s9 wx => ∃ a c, s9 = .slice a todo.length c ∧ ReachCut w g n sb E (.slice (some ⟨n1, m1, none⟩) n k1) v2 vs todo s (.slice a todo.length c) wx)
      case first =>
        have h2 := h.rowDrop 1 (by omega)
        rw [Nat.add_sub_cancel] at h2
        have e2 : (ints (nats (i :: todo))).drop (1 * 1) = ints (nats todo) := by simp [ints, nats]
        rw [e2] at h2
        by_cases hk9 : k9 = 1
        · subst hk9
          rw [if_pos rfl] at h2
          obtain rfl : todo = [] := List.eq_nil_of_length_eq_zero (by omega)
          go_wp2_with fail
          go_meet
          exact ⟨_, _, rfl, h2⟩
        · rw [if_neg hk9] at h2
          have hk9' : (k9 == 1) = false := by simpa using hk9
          go_wp2_with fail
          go_meet
          exact ⟨_, _, rfl, h2⟩
      case rest =>
        obtain ⟨a9, k9, rfl, h⟩ := hcut
        clear d1 b1 hi0 hnc9
        have h : St w No wc (Row 3 1 (.slice a9 todo.length k9) todo.length (ints (nats todo)) :: Row 4 1 (.slice (some ⟨sb, 0, none⟩) n n) n (bools n s) :: webL g n (nextOf E) (aheadOf n E) (.slice (some ⟨n1, m1, none⟩) n k1) v2 vs []) := h
        have hr : St w No wc (Row 24 1 (.slice (some ⟨n1, m1, none⟩) n k1) n ((List.range n).map vs) :: _) := h.f3
        have hfm : St w No wc (Fam (rowsOf vs (nextOf E)) (List.range n) :: _) := h.f5
        obtain ⟨ai, ki, hvi⟩ := (hfm.famOut (List.mem_range.2 hin) : St w No wc (Row 3 1 (vs i) (nextOf E i).length (ints (nextOf E i)) :: _)).rowForm
        have d1 : wc.cell? ⟨n1, m1 + i, none⟩ = some (.slice ai (nextOf E i).length ki) := by rw [← hvi]; exact row_cell hr i _ (by omega) (by simp [hin])
        have d2 : wc.cell? ⟨g, 0, none⟩ = some (.slice (some ⟨n1, m1, none⟩) n k1) := (h.f2 : St w No wc (Pt g _ :: _)).cellv rfl
        have HVI := Lib.hid hvi
        have hii : (i : Int) < (n : Int) := by omega
        have HOL := Lib.hid (show (outs E i).length = (nextOf E i).length by rw [nextOf_outs, nats_length])
        have hno := nextOf_len E i
        have HPre := Lib.hid (show ∀ x ∈ outs E i, x < n from fun x hx => (HElt.out _ (outs_mem.1 hx)).2)
        clear hr hfm hvi
        go_wp2_with fail
        clear d1 d2
        go_loopw [9, 51] (ReachB w g n f sb i m E (.slice (some ⟨n1, m1, none⟩) n k1) v2 vs) (fun _ u _ => (nextOf E i).length - (intOf u).toNat)
        case atStart => exact ⟨0, todo, s, rfl, by omega, hI, h⟩
        case round =>
          clear h hI
          obtain ⟨j, todo, s, rfl, hj, hI, h⟩ := hrel
          obtain ⟨a9, k9, rfl⟩ := h.rowForm
          by_cases hlt : j < (nextOf E i).length
          · have hlt' : j < (outs E i).length := by rw [HOL.out]; exact hlt
            obtain ⟨kk, hkk⟩ : ∃ kk, (outs E i)[j]? = some kk := ⟨_, List.getElem?_eq_getElem hlt'⟩
            have hkn : kk < n := HPre.out _ (List.mem_of_getElem? hkk)
            have hfm : St w No wr (Fam (rowsOf vs (nextOf E)) (List.range n) :: _) := h.f5
            have hrow : St w No wr (Row 3 1 (vs i) (nextOf E i).length (ints (nextOf E i)) :: _) := hfm.famOut (List.mem_range.2 hin)
            rw [HVI.out] at hrow
            obtain ⟨bi, oi, ki', hv, hci, -⟩ := hrow.rowOpen (by omega)
            cases hv
            have d1 : wr.cell? ⟨bi, oi + j, none⟩ = some (.int .i64 (kk : Int)) := hci j _ (by rw [nextOf_outs]; simp [ints, nats, hkk])
            have hsn : St w No wr (Row 4 1 (.slice (some ⟨sb, 0, none⟩) n n) n (bools n s) :: _) := h.f1
            have d2 : wr.cell? ⟨sb, kk, none⟩ = some (.bool (s kk)) := by have := row_cell hsn kk _ (by omega) (bools_get hkn); rwa [Nat.zero_add] at this
            have d3 := row_free hsn kk (by omega)
            have hki : (kk : Int) < (n : Int) := by omega
            have htl : todo.length ≤ n + 1 := by have := hI.meas; omega
            have HKK := Lib.hid hkk
            clear hci hrow hfm hkk
            cases hsk : s kk with
            | true =>
              rw [hsk] at d2
              have HSK := Lib.hid hsk
              clear hsk hsn
              go_wp2_with fail
              go_roundw
              case rel => exact ⟨j + 1, todo, s, by go_num, by omega, hI.skip HKK.out HSK.out, h⟩
              case measure => simp [intOf]; omega
            | false =>
              rw [hsk] at d2
              have HSK := Lib.hid hsk
              clear hsk
              have hs2 := hsn.rowSet kk (.bool true) (by omega)
              rw [Nat.zero_add, bools_set hkn] at hs2
              clear hsn
              go_wp2_with (at_builtin; refine stop_at ?_)
              refine go_on ?_
              refine wl_append (news := [.int .i64 (kk : Int)]) (((hs2.alloc _).f2)) Try.underlying24 info3 rfl (by decide) rfl rfl rfl (by have q := cell_one_new (wr.setCell ⟨sb, kk, none⟩ (.bool true)) (.int .i64 (kk : Int)) 3; rw [World.size_setCell] at q; exact q) (by intro u hu; simp at hu; subst hu; rfl) (by unfold maxLen; omega) (by omega) ?_
              intro v' w3 h3 hs3
              clear d1 d2 d3 h hs2
              obtain ⟨a10, k10, rfl⟩ := h3.rowForm
              go_wp2_with fail
              go_roundw
              case rel =>
                refine ⟨j + 1, todo ++ [kk], see s kk, by go_num, by omega, hI.push HKK.out hkn HSK.out, ?_⟩
                rw [nats_append, ints_append, List.length_append]
                exact h3.f1.drop1
              case measure => simp [intOf]; omega
          · have hjl : (outs E i).length ≤ j := by have := HOL.out; omega
            go_wp2_with fail
            go_roundg m
            case measure => omega
            case rel => exact ⟨todo, s, by omega, hI.finish hjl, h⟩
end Go.Proofs.Ytofoibckfkbdoaa
