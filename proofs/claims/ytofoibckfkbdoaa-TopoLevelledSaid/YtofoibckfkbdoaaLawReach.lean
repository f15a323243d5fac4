/- walk: the law's own reach -/
import Derived.Test.YtofoibckfkbdoaaReach
import Derived.Test.YtofoibckfkbdoaaWar
import Derived.StillTailTactics
set_option linter.unusedSimpArgs false
set_option linter.unusedVariables false
namespace Go.Proofs.Ytofoibckfkbdoaa
open Go.RowKit Go.HG

theorem info31 : (Try.prog.info? 31).map (fun i => (i.zero, i.size, i.bytes)) = some (some (.slice none 0 0), 1, 24) := by kernel_rfl

def rowM (n : Nat) (vs : Nat → Value) (M : Mx) : Nat → HP := fun i => Row 4 1 (vs i) n (bools n (M i))
/-- A matrix of which t rows are made. -/
abbrev matT (v : Value) (n t : Nat) (vs : Nat → Value) (M : Mx) (F : List HP) : List HP := Row 31 1 v n ((List.range n).map fun i => if i < t then vs i else .slice none 0 0) :: Fam (rowM n vs M) (List.range t) :: F
abbrev matL (v : Value) (n : Nat) (vs : Nat → Value) (M : Mx) (F : List HP) : List HP := Row 31 1 v n ((List.range n).map vs) :: Fam (rowM n vs M) (List.range n) :: F

def LReachPost (w : World) (n : Nat) (E : List (Nat × Nat)) (e : Ending) (w' : World) : Prop :=
  ∃ (v : Value) (vs : Nat → Value) (M : Mx), e = .returned v ∧ (∀ a b, M a b = true ↔ Leads E a b) ∧ St w No w' (matL v n vs M [])
def RelM0 (w : World) (v : Value) (n : Nat) (u : Value) (wr : World) : Prop :=
  ∃ (t : Nat) (vs : Nat → Value), u = .int .i64 t ∧ t ≤ n ∧ St w No wr (matT v n t vs (fun _ _ => false) [])
def edgeM (n : Nat) (ps : List (Int × Int)) : Mx := fun a b => (edges n ps).contains (a, b)
def RelM1 (w : World) (v : Value) (n : Nat) (vs : Nat → Value) (ps : List (Int × Int)) (u : Value) (wr : World) : Prop :=
  ∃ t : Nat, u = .int .i64 t ∧ t ≤ ps.length ∧ St w No wr (matL v n vs (edgeM n (ps.take t)) [])
def RelMk (w : World) (v : Value) (n : Nat) (vs : Nat → Value) (M : Mx) (u : Value) (wr : World) : Prop :=
  ∃ k : Nat, u = .int .i64 k ∧ k ≤ n ∧ St w No wr (matL v n vs (wk M k) [])
def RelMi (w : World) (v : Value) (n k : Nat) (vs : Nat → Value) (M : Mx) (u : Value) (wr : World) : Prop :=
  ∃ i : Nat, u = .int .i64 i ∧ i ≤ n ∧ St w No wr (matL v n vs (wmid M k i 0) [])
def RelMj (w : World) (v : Value) (n k i : Nat) (vs : Nat → Value) (M : Mx) (u : Value) (wr : World) : Prop :=
  ∃ j : Nat, u = .int .i64 j ∧ j ≤ n ∧ St w No wr (matL v n vs (wmid M k i j) [])

theorem mat_congr {w0 w : World} {K : Nat → Prop} {v : Value} {n : Nat} {vs : Nat → Value} {M M' : Mx} {F : List HP} (h : St w0 K w (matL v n vs M F)) (he : ∀ a b, a < n → b < n → M a b = M' a b) : St w0 K w (matL v n vs M' F) := by
  have h1 : (Fam (rowM n vs M) (List.range n)) = Fam (rowM n vs M') (List.range n) := by
    unfold Fam
    congr 1
    apply List.map_congr_left
    intro a ha
    have ha := List.mem_range.1 ha
    unfold rowM
    congr 1
    unfold bools
    apply List.map_congr_left
    intro b hb
    rw [he a b ha (List.mem_range.1 hb)]
  rw [show matL v n vs M' F = matL v n vs M F from by unfold matL; rw [h1]]
  exact h

theorem mat_open {w0 w : World} {K : Nat → Prop} {v : Value} {n : Nat} {vs : Nat → Value} {M : Mx} {F : List HP} (h : St w0 K w (matL v n vs M F)) (i : Nat) (hi : i < n) :
    ∃ b o c, vs i = .slice (some ⟨b, o, none⟩) n c ∧ (∀ j, j < n → w.cell? ⟨b, o + j, none⟩ = some (.bool (M i j))) ∧ (∀ j, w.frozen? ⟨b, j, none⟩ = false) := by
  have h2 : St w0 K w (rowM n vs M i :: _) := h.f1.famOut (List.mem_range.2 hi)
  obtain ⟨b, o, c, hv, hc, hf, _⟩ := (show St w0 K w (Row 4 1 (vs i) n (bools n (M i)) :: _) from h2).rowOpen (by omega)
  exact ⟨b, o, c, hv, fun j hj => hc j _ (bools_get hj), hf⟩

theorem row_lt {w0 w : World} {K : Nat → Prop} {L : List HP} {e : TypeId} {sz n g off cap : Nat} {xs : List Value} (h : St w0 K w (Row e sz (.slice (some ⟨g, off, none⟩) n cap) n xs :: L)) (hn : 0 < n) : g < w.heap.size := by
  obtain ⟨_, _, _, hv, _, _, _, _, _, l⟩ := h.rowOpen hn
  cases hv
  exact l
theorem mat_head {w0 w : World} {K : Nat → Prop} {n c : Nat} {vs : Nat → Value} {M : Mx} {F : List HP} {b o : Nat} (h : St w0 K w (matL (.slice (some ⟨b, o, none⟩) n c) n vs M F)) (i : Nat) (hi : i < n) : w.cell? ⟨b, o + i, none⟩ = some (vs i) :=
  row_cell h i _ (by omega) (by simp [hi])

theorem mat_set {w0 w : World} {K : Nat → Prop} {v : Value} {n : Nat} {vs : Nat → Value} {M M' : Mx} {F : List HP} (h : St w0 K w (matL v n vs M F)) {i j b o c : Nat} (x : Bool) (hi : i < n) (hj : j < n) (hv : vs i = .slice (some ⟨b, o, none⟩) n c)
    (hM : ∀ a b, a < n → b < n → M' a b = if a = i ∧ b = j then x else M a b) : St w0 K (w.setCell ⟨b, o + j, none⟩ (.bool x)) (matL v n vs M' F) := by
  have h2 : St w0 K w (Row 4 1 (vs i) n (bools n (M i)) :: Fam (rowM n vs M) ((List.range n).erase i) :: Row 31 1 v n ((List.range n).map vs) :: F) := h.f1.famOut (List.mem_range.2 hi)
  rw [hv] at h2
  have h3 := h2.rowSet j (.bool x) (by omega)
  rw [← hv] at h3
  have e : (bools n (M i)).set j (.bool x) = bools n (fun b => if b = j then x else M i b) := by
    apply List.ext_getElem?
    intro t
    rw [List.getElem?_set]
    by_cases e : j = t
    · subst e; simp [bools, hj]
    · by_cases ht : t < n <;> simp [bools, e, Ne.symm e, ht]
  rw [e] at h3
  have e3 : rowM n vs (fun a b => if a = i ∧ b = j then x else M a b) i = Row 4 1 (vs i) n (bools n (fun b => if b = j then x else M i b)) := by
    have : (fun b => if i = i ∧ b = j then x else M i b) = fun b => if b = j then x else M i b := by funext b; simp
    show Row 4 1 (vs i) n (bools n fun b => if i = i ∧ b = j then x else M i b) = _
    rw [this]
  have h4 : St w0 K (w.setCell ⟨b, o + j, none⟩ (.bool x)) (rowM n vs (fun a b => if a = i ∧ b = j then x else M a b) i :: Fam (rowM n vs M) ((List.range n).erase i) :: Row 31 1 v n ((List.range n).map vs) :: F) := by rw [e3]; exact h3
  have h5 := h4.famIn (f := rowM n vs M) (List.mem_range.2 hi) List.nodup_range (fun a _ ha => by unfold rowM; simp [ha])
  exact mat_congr h5.f1 fun a b ha hb => (hM a b ha hb).symm

theorem edgeM_spec (n : Nat) (ps : List (Int × Int)) (a b : Nat) : edgeM n ps a b = true ↔ (a, b) ∈ edges n ps := by
  unfold edgeM; simp

attribute [local irreducible] wpStill
set_option maxHeartbeats 2000000 in
set_option maxRecDepth 100000 in
theorem lreach_ok (n len cap : Nat) (A : Option Addr) (ps : List (Int × Int)) (w : World) (hn : n ≤ 40) (hl : ps.length = len) (hlen : len ≤ 300) (hr : Rd w A (pcells ps)) :
    Calls Try.prog 11 #[.int .i64 n, .slice A len cap] w (LReachPost w n (edges n ps)) := by
  have hmk1 := run_make_row' (P := Try.prog) 29 31 (.slice none 0 0) 24 Try.underlying29 info31 rfl .i64 .i64 n (by omega) (by omega)
  have hmk2 := run_make_row' (P := Try.prog) 31 4 (.bool false) 1 Try.underlying31 info4 rfl .i64 .i64 n (by omega) (by omega)
  have HR := Lib.hid hr
  have HL := Lib.hid hl
  clear hr hl
  go_enter Try.func11, Try.ntmps11
  go_wp2_with fail
  have h0 := (St.refl w No).madeRow (z := .slice none 0 0) (sz := 1) 31 n (by unfold maxLen; omega)
  have e1 : (madeCells (Value.slice none 0 0).cells (n * 1)) = madeCells #[.slice none 0 0] n := by rw [Nat.mul_one]; rfl
  have e2 : (madeCells #[Value.slice none 0 0] n).toList = (List.range n).map fun i => if i < 0 then (fun _ => .slice none 0 0 : Nat → Value) i else .slice none 0 0 := by
    apply List.ext_getElem? ; intro i
    by_cases hi : i < n <;> simp [madeCells, hi, Nat.mod_one]
  rw [e1, e2] at h0
  have h : St w No _ (matT (.slice (some ⟨w.heap.size, 0, none⟩) n n) n 0 (fun _ => .slice none 0 0) (fun _ _ => false) []) := (h0.famNil _).f1
  clear e1 e2 h0
  generalize w.alloc (.cells (madeCells #[.slice none 0 0] n) 31) = wq at *
  generalize hvb : w.heap.size = vb at *
  clear hmk1 hvb
  go_loopw [16] (RelM0 w (.slice (some ⟨vb, 0, none⟩) n n) n) (fun u _ => n - (intOf u).toNat)
  case atStart => exact ⟨0, _, rfl, by omega, h⟩
  case round =>
    clear h
    obtain ⟨t, vs, rfl, ht, h⟩ := hrel
    by_cases hlt : t < n
    · have hti : (t : Int) < (n : Int) := by omega
      have d1 : wr.cell? ⟨vb, t, none⟩ = some (.slice none 0 0) := by have := row_cell h t (.slice none 0 0) (by omega) (by simp [hlt]); rwa [Nat.zero_add] at this
      have d2 := row_free h t (by omega)
      have l1 := (h.rowOpen (by omega))
      have l2 : vb < wr.heap.size := by obtain ⟨_, _, _, hv, _, _, _, _, _, l⟩ := l1; cases hv; exact l
      clear l1
      go_wp2_with fail
      go_roundw
      case rel =>
        have h0 := h.rowSet t (.slice (some ⟨wr.heap.size, 0, none⟩) n n) (by omega)
        rw [Nat.zero_add] at h0
        have h2 := (made_false h0 n (by omega)).f1
        rw [World.size_setCell] at h2
        have e1 : ((List.range n).map fun i => if i < t then vs i else .slice none 0 0).set t (.slice (some ⟨wr.heap.size, 0, none⟩) n n) = (List.range n).map fun i => if i < t + 1 then (if i = t then .slice (some ⟨wr.heap.size, 0, none⟩) n n else vs i) else .slice none 0 0 := by
          apply List.ext_getElem?
          intro i
          rw [List.getElem?_set]
          by_cases e : t = i
          · subst e; simp [hlt]
          · by_cases hi : i < n
            · by_cases hit : i < t
              · simp [hi, e, Ne.symm e, hit, show i < t + 1 from by omega]
              · simp [hi, e, Ne.symm e, hit, show ¬ i < t + 1 from by omega]
            · simp [hi, e]
        rw [e1] at h2
        have h3 : St w No _ (Row 4 1 (.slice (some ⟨wr.heap.size, 0, none⟩) n n) n (bools n fun _ => false) :: _) := h2.f1
        have h4 := h3.f2.famTo
        have e2 : (List.range t).map (rowM n vs fun _ _ => false) = (List.range t).map (rowM n (fun i => if i = t then .slice (some ⟨wr.heap.size, 0, none⟩) n n else vs i) fun _ _ => false) := by
          apply List.map_congr_left
          intro i hi
          have := List.mem_range.1 hi
          show Row 4 1 (vs i) n _ = Row 4 1 (if i = t then _ else vs i) n _
          rw [if_neg (by omega)]
        rw [e2] at h4
        have e3 : Row 4 1 (.slice (some ⟨wr.heap.size, 0, none⟩) n n) n (bools n fun _ => false) = rowM n (fun i => if i = t then .slice (some ⟨wr.heap.size, 0, none⟩) n n else vs i) (fun _ _ => false) t := by
          show _ = Row 4 1 (if t = t then _ else vs t) n _
          rw [if_pos rfl]
        rw [e3] at h4
        refine ⟨t + 1, fun i => if i = t then .slice (some ⟨wr.heap.size, 0, none⟩) n n else vs i, by go_num, by omega, ?_⟩
        have h5 := St.famOf (is := List.range (t + 1)) (f := rowM n (fun i => if i = t then .slice (some ⟨wr.heap.size, 0, none⟩) n n else vs i) fun _ _ => false) (by rw [List.range_succ, List.map_append, List.append_assoc]; exact h4)
        exact h5.f1
      case measure => simp [intOf]; omega
    · have htn : t = n := by omega
      subst htn
      have e1 : ((List.range t).map fun i => if i < t then vs i else .slice none 0 0) = (List.range t).map vs := by
        apply List.map_congr_left
        intro i hi
        rw [if_pos (List.mem_range.1 hi)]
      have h1 : St w No wr (matL (.slice (some ⟨vb, 0, none⟩) t t) t vs (fun _ _ => false) []) := by
        unfold matT at h
        rw [e1] at h
        exact h
      clear e1 hmk2 hlt ht h
      go_wp2_with fail
      go_loopw [27] (RelM1 w (.slice (some ⟨vb, 0, none⟩) t t) t vs ps) (fun u _ => len - (intOf u).toNat)
      case atStart => exact ⟨0, rfl, by omega, mat_congr h1 (fun a b _ _ => by simp [edgeM, edges])⟩
      case round =>
        clear h1
        obtain ⟨q, rfl, hq, h⟩ := hrel
        by_cases hlt : q < len
        · obtain ⟨p, hp⟩ : ∃ p, p = ps[q]'(by rw [HL.out]; exact hlt) := ⟨_, rfl⟩
          obtain ⟨bp, op, rfl, hb, hc⟩ := (HR.out.later h).at_ (by have := HL.out; rw [pcells_length]; omega)
          have hg := pcells_get (ps := ps) (k := q) (by rw [HL.out]; exact hlt)
          rw [← hp] at hg
          have c1 := hc _ _ hg.1
          have c2 := hc _ _ hg.2
          rw [← Nat.add_assoc] at c2
          have htk : ps.take (q + 1) = ps.take q ++ [p] := by rw [List.take_succ_eq_append_getElem (by rw [HL.out]; exact hlt), hp]
          have Htk := Lib.hid htk
          clear hg hc hp htk
          obtain ⟨p1, p2⟩ := p
          simp only at c1 c2
          by_cases hok : ok t (p1, p2)
          · obtain ⟨o1, o2, o3, o4⟩ := hok
            simp only at o1 o2 o3 o4
            obtain ⟨a, rfl⟩ := Int.eq_ofNat_of_zero_le o1
            obtain ⟨b, rfl⟩ := Int.eq_ofNat_of_zero_le o3
            have hE : edges t (ps.take (q + 1)) = edges t (ps.take q) ++ [(a, b)] := by
              rw [Htk.out, edges_snoc, if_pos ⟨o1, o2, o3, o4⟩]; simp
            have HE := Lib.hid hE
            clear hE Htk
            have ha : a < t := by omega
            have hb' : b < t := by omega
            have hA : St w No _ (matL (.slice (some ⟨vb, 0, none⟩) t t) t vs (edgeM t (ps.take q)) [_]) := (h.alloc (.cells #[.int .i64 (a : Int), .int .i64 (b : Int)] 35)).b2
            obtain ⟨rb, ro, rc, hvs, hcc, hff⟩ := mat_open hA a ha
            have d1 := mat_head hA a ha
            rw [Nat.zero_add] at d1
            have d2 := hcc b hb'
            have d3 := hff (ro + b)
            rw [hvs] at d1
            have l0 := row_lt h (by omega)
            have c3 := hA.f2.cellv (j := 0) rfl
            have c4 := hA.f2.cellv (j := 1) rfl
            clear hcc hff
            go_upto_region 11 with fail
            generalize hpb : wr.heap.size = pb at *
            clear hpb
            generalize wr.alloc (.cells #[.int .i64 (a : Int), .int .i64 (b : Int)] 35) = wp at *
            go_still_tail 8, (by kernel_rfl)
            change wpList _ _ _ _ _ wp.drew
            have hB := mat_set hA.drew true (M' := edgeM t (ps.take (q + 1))) ha hb' hvs (fun x y _ _ => by
              simp only [edgeM, HE.out, List.contains_eq_any_beq, List.any_append, List.any_cons, List.any_nil, Bool.or_false]
              by_cases e : x = a ∧ y = b
              · rw [if_pos e, e.1, e.2]; simp
              · rw [if_neg e, show ((x, y) == (a, b)) = false from by simpa using e, Bool.or_false])
            go_wp2_with fail
            go_roundw
            case rel => exact ⟨q + 1, by go_num, by have := HL.out; omega, hB.f2.drop1⟩
            case measure => simp [intOf]; omega
          · have Hno := Lib.hid hok
            clear hok
            have hE : edgeM t (ps.take (q + 1)) = edgeM t (ps.take q) := by
              unfold edgeM; rw [Htk.out, edges_snoc, if_neg Hno.out, List.append_nil]
            have HE := Lib.hid hE
            clear hE
            go_wp2_with fail
            · exact absurd (show ok t (p1, p2) by unfold ok; simp only; omega) Hno.out
            all_goals
              go_roundw
              case rel => exact ⟨q + 1, by go_num, by have := HL.out; omega, by rw [HE.out]; exact (h.alloc _).drop1⟩
              case measure => simp [intOf]; omega
        · have hql : q = len := by have := HL.out; omega
          subst hql
          rw [List.take_of_length_le (by rw [HL.out]; exact Nat.le_refl _)] at h
          clear hlt hq HR
          go_wp2_with fail
          go_loopw [61] (RelMk w (.slice (some ⟨vb, 0, none⟩) t t) t vs (edgeM t ps)) (fun u _ => t - (intOf u).toNat)
          case atStart => exact ⟨0, rfl, by omega, h⟩
          case round =>
            clear h
            obtain ⟨k, rfl, hk, h⟩ := hrel
            by_cases hlt : k < t
            · have hki : (k : Int) < (t : Int) := by omega
              go_wp2_with fail
              go_loopw [65] (RelMi w (.slice (some ⟨vb, 0, none⟩) t t) t k vs (wk (edgeM t ps) k)) (fun u _ => t - (intOf u).toNat)
              case atStart => exact ⟨0, rfl, by omega, by rw [wmid_start]; exact h⟩
              case round =>
                clear h
                obtain ⟨i, rfl, hi, h⟩ := hrel
                by_cases hlt2 : i < t
                · have hii : (i : Int) < (t : Int) := by omega
                  go_wp2_with fail
                  go_loopw [69] (RelMj w (.slice (some ⟨vb, 0, none⟩) t t) t k i vs (wk (edgeM t ps) k)) (fun u _ => t - (intOf u).toNat)
                  case atStart => exact ⟨0, rfl, by omega, h⟩
                  case round =>
                    clear h
                    obtain ⟨j, rfl, hj, h⟩ := hrel
                    by_cases hlt3 : j < t
                    · have hji : (j : Int) < (t : Int) := by omega
                      obtain ⟨ri, oi, ci, hvi, hci, hfi⟩ := mat_open h i hlt2
                      obtain ⟨rk, ok', ck, hvk, hck, hfk⟩ := mat_open h k hlt
                      have d1 := mat_head h i hlt2
                      have d2 := mat_head h k hlt
                      have d3 := hci j hlt3
                      have d4 := hci k hlt
                      have d5 := hck j hlt3
                      have d6 := hfi (oi + j)
                      rw [Nat.zero_add] at d1 d2
                      rw [hvi] at d1
                      rw [hvk] at d2
                      rw [wmid_ij] at d3
                      rw [wmid_ik] at d4
                      rw [wmid_kj] at d5
                      have hB := fun (x : Bool) (hx : x = (wk (edgeM t ps) k i j || (wk (edgeM t ps) k i k && wk (edgeM t ps) k k j))) => mat_set h.drew (M' := wmid (wk (edgeM t ps) k) k i (j + 1)) x hlt2 hlt3 hvi (fun a b _ _ => by rw [wmid_next, hx]; rfl)
                      have l0 := row_lt h (by omega)
                      have HB := Lib.hid hB
                      clear hB hci hck hfi hfk
                      generalize wk (edgeM t ps) k i j = x at *
                      generalize wk (edgeM t ps) k i k = y at *
                      generalize wk (edgeM t ps) k k j = z at *
                      go_upto_region 22 with fail
                      cases x
                      · cases y
                        · go_still_tail 31, (by kernel_rfl)
                          change wpList _ _ _ _ _ wr.drew
                          go_wp2_with fail
                          go_roundw
                          case rel => exact ⟨j + 1, by go_num, by omega, HB.out false rfl⟩
                          case measure => simp [intOf]; omega
                        · go_still_tail 31, (by kernel_rfl)
                          change wpList _ _ _ _ _ wr.drew
                          go_wp2_with fail
                          go_roundw
                          case rel => exact ⟨j + 1, by go_num, by omega, HB.out z (by cases z <;> rfl)⟩
                          case measure => simp [intOf]; omega
                      · go_still_tail 31, (by kernel_rfl)
                        change wpList _ _ _ _ _ wr.drew
                        go_wp2_with fail
                        go_roundw
                        case rel => exact ⟨j + 1, by go_num, by omega, HB.out true (by cases y <;> cases z <;> rfl)⟩
                        case measure => simp [intOf]; omega
                    · have hjt : j = t := by omega
                      subst hjt
                      go_wp2_with fail
                      go_roundw
                      case rel => exact ⟨i + 1, by go_num, by omega, mat_congr h fun a b _ hb => wmid_row _ _ _ _ _ _ hb⟩
                      case measure => simp [intOf]; omega
                · have hit : i = t := by omega
                  subst hit
                  go_wp2_with fail
                  go_roundw
                  case rel => exact ⟨k + 1, by go_num, by omega, mat_congr h fun a b ha _ => wmid_end _ _ _ _ _ ha⟩
                  case measure => simp [intOf]; omega
            · have hkt : k = t := by omega
              subst hkt
              go_wp2_with fail
              go_ret
              refine ⟨_, vs, wk (edgeM k ps) k, rfl, wk_spec (edgeM_spec k ps) (fun e he => edges_lt he), h⟩
end Go.Proofs.Ytofoibckfkbdoaa
