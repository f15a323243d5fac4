/- walk: the web of pairs -/
import Derived.Test.YtofoibckfkbdoaaWeb
import Derived.Test.YtofoibckfkbdoaaD
import Derived.Deep.OwnRows
import Derived.Deep.DeepCutAuto
import Derived.Test.YtofoibckfkbdoaaReg
set_option linter.unusedSimpArgs false
set_option linter.unusedVariables false
namespace Go.Proofs.Ytofoibckfkbdoaa
open Go.RowKit Go.HG

theorem info24 : (Try.prog.info? 24).map (fun i => (i.zero, i.size, i.bytes)) = some (some (.slice none 0 0), 1, 24) := by kernel_rfl

def MadePost (w : World) (n : Nat) (ps : List (Int × Int)) (e : Ending) (w' : World) : Prop :=
  ∃ g, e = .returned (.pointer (some ⟨g, 0, none⟩)) ∧ St w No w' [Web g n (nextOf (edges n ps)) (aheadOf n (edges n ps))]
def MadeRel (w : World) (g n len : Nat) (ps : List (Int × Int)) (u : Value) (wr : World) : Prop :=
  ∃ k : Nat, u = .int .i64 k ∧ k ≤ len ∧ St w No wr [Web g n (nextOf (edges n (ps.take k))) (aheadOf n (edges n (ps.take k)))]
def MadeStart (w : World) (n : Nat) (s5 : Value) (wx : World) : Prop := ∃ g, s5 = .pointer (some ⟨g, 0, none⟩) ∧ St w No wx [Web g n (nextOf []) (aheadOf n [])]

theorem made_start1 {w : World} {n : Nat} {K : Nat → Prop} {L : List HP} {wx : World} {g b1 b2 : Nat} (hn : n ≤ 256)
    (h : St w K wx (Pt g (.cells #[.slice (some ⟨b1, 0, none⟩) n n, .slice (some ⟨b2, 0, none⟩) n n] 44 (0, 0)) :: Pt b1 (.cells (madeCells #[.slice none 0 0] n) 24 (0, 0)) :: Pt b2 (.cells (madeCells #[.int .i64 0] n) 3 (0, 0)) :: L)) :
    St w K wx (Web g n (nextOf []) (aheadOf n []) :: L) := by
  have hm : n ≤ maxLen := by unfold maxLen; omega
  have h1 := h.f1.toRow (sz := 1) (off := 0) (cap := n) n (Nat.le_refl _) hm (by rw [size_madeCells]; omega)
  have h2 := h1.f2.toRow (sz := 1) (off := 0) (cap := n) n (Nat.le_refl _) hm (by rw [size_madeCells]; omega)
  have h3 : St w K wx ((List.range n).map (rowsOf (fun _ => .slice none 0 0) (nextOf [])) ++ (Row 3 1 (.slice (some ⟨b2, 0, none⟩) n n) n (((madeCells #[Value.int .i64 0] n).toList.drop 0).take (n * 1)) :: Row 24 1 (.slice (some ⟨b1, 0, none⟩) n n) n (((madeCells #[Value.slice none 0 0] n).toList.drop 0).take (n * 1)) :: Pt g (.cells #[.slice (some ⟨b1, 0, none⟩) n n, .slice (some ⟨b2, 0, none⟩) n n] 44 (0, 0)) :: L)) := by
    have : ∀ m, ∃ L', L' = (List.range m).map (rowsOf (fun _ => .slice none 0 0) (nextOf [])) ∧ ∀ L2, St w K wx L2 → St w K wx (L' ++ L2) := by
      intro m
      refine ⟨_, rfl, ?_⟩
      induction m with
      | zero => intro L2 h; exact h
      | succ m ih =>
        intro L2 h
        rw [List.range_succ, List.map_append, List.append_assoc]
        exact ih _ (h.addNil 3 1)
    obtain ⟨_, rfl, hh⟩ := this n
    exact hh _ h2
  have h4 := h3.famOf
  refine St.webClose (v1 := .slice (some ⟨b1, 0, none⟩) n n) (v2 := .slice (some ⟨b2, 0, none⟩) n n) (vs := fun _ => .slice none 0 0) ?_
  have e1 : (((madeCells #[Value.slice none 0 0] n).toList.drop 0).take (n * 1)) = (List.range n).map fun _ => Value.slice none 0 0 := by
    rw [List.drop_zero, List.take_of_length_le (by simp [size_madeCells])]
    apply List.ext_getElem? ; intro i
    by_cases hi : i < n <;> simp [madeCells, hi, Nat.mod_one]
  have e2 : (((madeCells #[Value.int .i64 0] n).toList.drop 0).take (n * 1)) = ints (aheadOf n []) := by
    rw [List.drop_zero, List.take_of_length_le (by simp [size_madeCells])]
    apply List.ext_getElem? ; intro i
    by_cases hi : i < n <;> simp [madeCells, hi, Nat.mod_one, ints, aheadOf]
  rw [e1, e2] at h4
  exact (h4.f3.f3.f3.f1.f2 : St w K wx (_ :: _ :: _ :: _ :: L))

theorem made_skip {w wr : World} {g n len k : Nat} {ps : List (Int × Int)} {p : Int × Int} {o : Obj} (hk : k < len) (htk : ps.take (k + 1) = ps.take k ++ [p]) (hno : ¬ ok n p)
    (h : St w No wr [Web g n (nextOf (edges n (ps.take k))) (aheadOf n (edges n (ps.take k)))]) : MadeRel w g n len ps (.int .i64 ((k : Int) + 1)) (wr.alloc o) := by
  refine ⟨k + 1, rfl, hk, ?_⟩
  rw [htk, edges_snoc, if_neg hno, List.append_nil]
  exact (h.alloc o).drop1
def MadeMid (w : World) (g n pb a b : Nat) (E : List (Nat × Nat)) (wx : World) : Prop :=
  St w No wx [Pt pb (.cells #[.int .i64 (a : Int), .int .i64 (b : Int)] 35 (0, 0)), Web g n (nextOf (E ++ [(a, b)])) (aheadOf n E)]

theorem row_cell {w0 w : World} {K : Nat → Prop} {L : List HP} {e : TypeId} {sz n g off cap : Nat} {xs : List Value} (h : St w0 K w (Row e sz (.slice (some ⟨g, off, none⟩) n cap) n xs :: L)) (j : Nat) (u : Value) (hn : 0 < n) (hu : xs[j]? = some u) : w.cell? ⟨g, off + j, none⟩ = some u := by
  obtain ⟨_, _, _, hv, hc, _⟩ := h.rowOpen hn
  cases hv
  exact hc j u hu
theorem row_free {w0 w : World} {K : Nat → Prop} {L : List HP} {e : TypeId} {sz n g off cap : Nat} {xs : List Value} (h : St w0 K w (Row e sz (.slice (some ⟨g, off, none⟩) n cap) n xs :: L)) (j : Nat) (hn : 0 < n) : w.frozen? ⟨g, j, none⟩ = false := by
  obtain ⟨_, _, _, hv, _, hf, _⟩ := h.rowOpen hn
  cases hv
  exact hf j
theorem made_mid {w w1 : World} {g n pb a b n1 m1 k1 b3 o3 c3 : Nat} {E : List (Nat × Nat)} {v2 : Value} {vs : Nat → Value} {P1 : HP} (ha : a < n)
    (h1 : St w No w1 (Row 3 1 (.slice (some ⟨b3, o3, none⟩) ((nextOf E a).length + 1) c3) ((nextOf E a).length + 1) (ints (nextOf E a) ++ [.int .i64 (b : Int)]) :: P1 :: Fam (rowsOf vs (nextOf E)) ((List.range n).erase a) :: Pt pb (.cells #[.int .i64 (a : Int), .int .i64 (b : Int)] 35 (0, 0)) ::
      Pt g (.cells #[.slice (some ⟨n1, m1, none⟩) n k1, v2] 44 (0, 0)) :: Row 24 1 (.slice (some ⟨n1, m1, none⟩) n k1) n ((List.range n).map vs) :: Row 3 1 v2 n (ints (aheadOf n E)) :: [])) :
    MadeMid w g n pb a b E (w1.setCell ⟨n1, m1 + a, none⟩ (.slice (some ⟨b3, o3, none⟩) ((nextOf E a).length + 1) c3)) := by
  have h2 := h1.f1.drop1.f4.rowSet a (.slice (some ⟨b3, o3, none⟩) ((nextOf E a).length + 1) c3) (by omega)
  have e1 : ((List.range n).map vs).set a (.slice (some ⟨b3, o3, none⟩) ((nextOf E a).length + 1) c3) = (List.range n).map (fun i => if i = a then .slice (some ⟨b3, o3, none⟩) ((nextOf E a).length + 1) c3 else vs i) := by
    apply List.ext_getElem?
    intro i
    rw [List.getElem?_set]
    by_cases h : a = i
    · subst h; simp [ha]
    · by_cases hi : i < n <;> simp [h, Ne.symm h, hi]
  rw [e1] at h2
  have h3 := h2.f1
  have e2 : (Row 3 1 (.slice (some ⟨b3, o3, none⟩) ((nextOf E a).length + 1) c3) ((nextOf E a).length + 1) (ints (nextOf E a) ++ [.int .i64 (b : Int)])) =
      rowsOf (fun i => if i = a then .slice (some ⟨b3, o3, none⟩) ((nextOf E a).length + 1) c3 else vs i) (nextOf (E ++ [(a, b)])) a := by
    unfold rowsOf
    simp only [nextOf_snoc, if_true, ints_append, List.length_append]
    rfl
  rw [e2] at h3
  have h4 := (h3.f2 : St w No _ (Fam _ _ :: rowsOf _ _ a :: _)).f1.famIn (List.mem_range.2 ha) List.nodup_range (fun j _ hj => by
    simp only [rowsOf, nextOf_snoc, if_neg hj])
  have h5 := St.webClose (F := [Pt pb (.cells #[.int .i64 (a : Int), .int .i64 (b : Int)] 35 (0, 0))]) (g := g) (n := n) (next := nextOf (E ++ [(a, b)])) (ahead := aheadOf n E) (v1 := .slice (some ⟨n1, m1, none⟩) n k1) (v2 := v2) (vs := fun i => if i = a then .slice (some ⟨b3, o3, none⟩) ((nextOf E a).length + 1) c3 else vs i) (w := w1.setCell ⟨n1, m1 + a, none⟩ (.slice (some ⟨b3, o3, none⟩) ((nextOf E a).length + 1) c3)) (by
    exact h4.f2.f1.f4.f3.f4)
  exact h5.f1

set_option maxHeartbeats 1000000 in
theorem made_walk (n len cap : Nat) (A : Option Addr) (ps : List (Int × Int)) (w : World) (hn : n ≤ 256) (hl : ps.length = len) (hlen : len ≤ 1000) (hr : Rd w A (pcells ps)) :
    Calls Try.prog 16 #[.int .i64 n, .slice A len cap] w (MadePost w n ps) := by
  have hmk1 := run_make_row' (P := Try.prog) 42 24 (.slice none 0 0) 24 Try.underlying42 info24 rfl .i64 .i64 n (by omega) (by omega)
  have hmk2 := run_make_row' (P := Try.prog) 24 3 (.int .i64 0) 8 Try.underlying24 info3 rfl .i64 .i64 n (by omega) (by omega)
  have Hr := Lib.hid hr
  have Hl := Lib.hid hl
  clear hr hl
  go_enter Try.func16, Try.ntmps16
  go_upto_region 1 with fail
  go_cut [5] (fun s5 wx => MadeStart w n s5 wx)
  case first =>
    go_region
    all_goals (go_wp2_with fail; go_meet; refine ⟨_, rfl, ?_⟩)
    · have h := ((((St.refl w No).alloc (.cells (madeCells #[Value.slice none 0 0] n) 24)).alloc (.cells (madeCells #[Value.int .i64 0] n) 3)).alloc (.cells #[Value.slice (some ⟨w.heap.size, 0, none⟩) n n, Value.slice (some ⟨w.heap.size + 1, 0, none⟩) n n] 44)).drew
      simp only [World.size_alloc] at h
      exact made_start1 hn h.f2.f1
    · have h := ((((St.refl w No).alloc (.cells (madeCells #[Value.int .i64 0] n) 3)).alloc (.cells (madeCells #[Value.slice none 0 0] n) 24)).alloc (.cells #[Value.slice (some ⟨w.heap.size + 1, 0, none⟩) n n, Value.slice (some ⟨w.heap.size, 0, none⟩) n n] 44)).drew
      simp only [World.size_alloc] at h
      exact made_start1 hn h
  case rest =>
    obtain ⟨g, rfl, h⟩ := hcut
    clear hmk1 hmk2
    go_wp2_with fail
    go_loopw [16] (MadeRel w g n len ps) (fun u _ => len - (intOf u).toNat)
    case atStart => exact ⟨0, rfl, by omega, h⟩
    case round =>
      clear h
      obtain ⟨k, rfl, hk, h⟩ := hrel
      by_cases hlt : k < len
      · obtain ⟨p, hp⟩ : ∃ p, p = ps[k]'(by rw [Hl.out]; exact hlt) := ⟨_, rfl⟩
        obtain ⟨bp, op, rfl, hb, hc⟩ := (Hr.out.later h).at_ (by have := Hl.out; rw [pcells_length]; omega)
        have hg := pcells_get (ps := ps) (k := k) (by rw [Hl.out]; exact hlt)
        rw [← hp] at hg
        have c1 := hc _ _ hg.1
        have c2 := hc _ _ hg.2
        rw [← Nat.add_assoc] at c2
        have htk : ps.take (k + 1) = ps.take k ++ [p] := by rw [List.take_succ_eq_append_getElem (by rw [Hl.out]; exact hlt), hp]
        have Htk := Lib.hid htk
        clear hg hc hp htk
        obtain ⟨p1, p2⟩ := p
        simp only at c1 c2
        by_cases hok : ok n (p1, p2)
        · obtain ⟨o1, o2, o3, o4⟩ := hok
          simp only at o1 o2 o3 o4
          obtain ⟨a, rfl⟩ := Int.eq_ofNat_of_zero_le o1
          obtain ⟨b, rfl⟩ := Int.eq_ofNat_of_zero_le o3
          have hE : edges n (ps.take (k + 1)) = edges n (ps.take k) ++ [(a, b)] := by
            rw [Htk.out, edges_snoc, if_pos ⟨o1, o2, o3, o4⟩]; simp
          have hEl : (edges n (ps.take k)).length ≤ 1000 := Nat.le_trans (edges_length _ _) (by have := List.length_take_le k ps; omega)
          generalize hEE : edges n (ps.take k) = E at *
          have HE := Lib.hid hE
          clear hEE Htk hE
          obtain ⟨pb, hpb⟩ : ∃ pb, pb = wr.heap.size := ⟨_, rfl⟩
          have HP := Lib.hid hpb
          clear hpb
          go_upto_region 6 with fail
          go_cut [] (fun wx => MadeMid w g n pb a b E wx)
          case first =>
            obtain ⟨v1, v2, vs, h⟩ := h.webOpen
            have ha : a < n := by omega
            have hb' : b < n := by omega
            -- what lies where
            have hA := (h.alloc (.cells #[.int .i64 (a : Int), .int .i64 (b : Int)] 35))
            clear h c1 c2
            generalize hwq : wr.alloc (.cells #[.int .i64 (a : Int), .int .i64 (b : Int)] 35) = wq at *
            generalize hsz : wr.heap.size = sz at *
            have hpb := HP.out
            subst hpb
            clear hwq hsz HP
            obtain ⟨n1, m1, k1, rfl, hc1, hf1, -, -, -, l1⟩ := (hA.f2 : St w No _ (Row 24 1 v1 n ((List.range n).map vs) :: _)).rowOpen (by omega)
            have d1 : wq.cell? ⟨n1, m1 + a, none⟩ = some (vs a) := hc1 a _ (by simp [ha])
            have d2 := hf1 (m1 + a)
            have d3 : wq.cell? ⟨pb, 0, none⟩ = some (.int .i64 (a : Int)) := hA.cellv rfl
            have d4 : wq.cell? ⟨pb, 1, none⟩ = some (.int .i64 (b : Int)) := hA.cellv rfl
            have l2 := hA.lt
            have l3 := hA.f1.lt
            have d5 : wq.cell? ⟨g, 0, none⟩ = some (.slice (some ⟨n1, m1, none⟩) n k1) := hA.f1.cellv rfl
            have hB : St w No wq (rowsOf vs (nextOf E) a :: Fam (rowsOf vs (nextOf E)) ((List.range n).erase a) :: Pt pb (.cells #[.int .i64 (a : Int), .int .i64 (b : Int)] 35 (0, 0)) :: Pt g (.cells #[.slice (some ⟨n1, m1, none⟩) n k1, v2] 44 (0, 0)) :: Row 24 1 (.slice (some ⟨n1, m1, none⟩) n k1) n ((List.range n).map vs) :: Row 3 1 v2 n (ints (aheadOf n E)) :: []) :=
              (hA.f4).famOut (List.mem_range.2 ha)
            clear hc1 hf1 hA
            have hnl := nextOf_len E a
            -- GEN
            refine g_begin 19 (fun w' => w'.cell? ⟨g, 0, none⟩ = some (.slice (some ⟨n1, m1, none⟩) n k1) ∧ w'.cell? ⟨pb, 0, none⟩ = some (.int .i64 (a : Int)) ∧ w'.cell? ⟨pb, 1, none⟩ = some (.int .i64 (b : Int)) ∧ w'.cell? ⟨n1, m1 + a, none⟩ = some (vs a)) (by kernel_rfl) ?_
            have hS : wq.drew.cell? ⟨g, 0, none⟩ = some (.slice (some ⟨n1, m1, none⟩) n k1) ∧ wq.drew.cell? ⟨pb, 0, none⟩ = some (.int .i64 (a : Int)) ∧ wq.drew.cell? ⟨pb, 1, none⟩ = some (.int .i64 (b : Int)) ∧ wq.drew.cell? ⟨n1, m1 + a, none⟩ = some (vs a) := ⟨d5, d3, d4, d1⟩
            refine g_take 0 (v := ?_) rfl (by kernel_rfl) (fun _ _ _ h => h) hS (by rfl) (fun w' hw' => ?_) ?_
            rotate_left
            · obtain ⟨s0, s1, s2, s3⟩ := hw'; go_simp; try with_reducible rfl
            try simp only [Act.put, List.setIfInBounds_toArray, List.set_cons_zero, List.set_cons_succ]
            refine g_take 1 (v := ?_) rfl (by kernel_rfl) (fun _ _ _ h => h) hS (by rfl) (fun w' hw' => ?_) ?_
            rotate_left
            · obtain ⟨s0, s1, s2, s3⟩ := hw'; go_simp; try with_reducible rfl
            try simp only [Act.put, List.setIfInBounds_toArray, List.set_cons_zero, List.set_cons_succ]
            refine g_take 2 (v := ?_) rfl (by kernel_rfl) (fun _ _ _ h => h) hS (by rfl) (fun w' hw' => ?_) ?_
            rotate_left
            · obtain ⟨s0, s1, s2, s3⟩ := hw'; go_simp; try with_reducible rfl
            try simp only [Act.put, List.setIfInBounds_toArray, List.set_cons_zero, List.set_cons_succ]
            refine g_take 3 (v := ?_) rfl (by kernel_rfl) (fun _ _ _ h => h) hS (by rfl) (fun w' hw' => ?_) ?_
            rotate_left
            · obtain ⟨s0, s1, s2, s3⟩ := hw'; go_simp; try with_reducible rfl
            try simp only [Act.put, List.setIfInBounds_toArray, List.set_cons_zero, List.set_cons_succ]
            refine g_take 4 (v := ?_) rfl (by kernel_rfl) (fun _ _ _ h => h) hS (by rfl) (fun w' hw' => ?_) ?_
            rotate_left
            · obtain ⟨s0, s1, s2, s3⟩ := hw'; go_simp; try with_reducible rfl
            try simp only [Act.put, List.setIfInBounds_toArray, List.set_cons_zero, List.set_cons_succ]
            refine g_take 5 (v := ?_) rfl (by kernel_rfl) (fun _ _ _ h => h) hS (by rfl) (fun w' hw' => ?_) ?_
            rotate_left
            · obtain ⟨s0, s1, s2, s3⟩ := hw'; go_simp; try with_reducible rfl
            try simp only [Act.put, List.setIfInBounds_toArray, List.set_cons_zero, List.set_cons_succ]
            refine g_take 6 (v := ?_) rfl (by kernel_rfl) (fun _ _ _ h => h) hS (by rfl) (fun w' hw' => ?_) ?_
            rotate_left
            · obtain ⟨s0, s1, s2, s3⟩ := hw'; go_simp; try with_reducible rfl
            try simp only [Act.put, List.setIfInBounds_toArray, List.set_cons_zero, List.set_cons_succ]
            refine g_take 7 (v := ?_) rfl (by kernel_rfl) (fun _ _ _ h => h) hS (by rfl) (fun w' hw' => ?_) ?_
            rotate_left
            · obtain ⟨s0, s1, s2, s3⟩ := hw'; go_simp; try with_reducible rfl
            try simp only [Act.put, List.setIfInBounds_toArray, List.set_cons_zero, List.set_cons_succ]
            refine g_take 8 (v := ?_) rfl (by kernel_rfl) (fun _ _ _ h => h) hS (by rfl) (fun w' hw' => ?_) ?_
            rotate_left
            · obtain ⟨s0, s1, s2, s3⟩ := hw'; go_simp; try with_reducible rfl
            try simp only [Act.put, List.setIfInBounds_toArray, List.set_cons_zero, List.set_cons_succ]
            refine g_take 9 (v := ?_) rfl (by kernel_rfl) (fun _ _ _ h => h) hS (by rfl) (fun w' hw' => ?_) ?_
            rotate_left
            · obtain ⟨s0, s1, s2, s3⟩ := hw'; go_simp; try with_reducible rfl
            try simp only [Act.put, List.setIfInBounds_toArray, List.set_cons_zero, List.set_cons_succ]
            refine g_take 10 (v := ?_) rfl (by kernel_rfl) (fun _ _ _ h => h) hS (by rfl) (fun w' hw' => ?_) ?_
            rotate_left
            · obtain ⟨s0, s1, s2, s3⟩ := hw'; go_simp; try with_reducible rfl
            try simp only [Act.put, List.setIfInBounds_toArray, List.set_cons_zero, List.set_cons_succ]
            refine g_take 11 (v := ?_) rfl (by kernel_rfl) (fun _ _ _ h => h) hS (by rfl) (fun w' hw' => ?_) ?_
            rotate_left
            · obtain ⟨s0, s1, s2, s3⟩ := hw'; go_simp; try with_reducible rfl
            try simp only [Act.put, List.setIfInBounds_toArray, List.set_cons_zero, List.set_cons_succ]
            refine g_take 12 (v := ?_) rfl (by kernel_rfl) (fun _ _ _ h => h) hS (by rfl) (fun w' hw' => ?_) ?_
            rotate_left
            · obtain ⟨s0, s1, s2, s3⟩ := hw'; go_simp; try with_reducible rfl
            try simp only [Act.put, List.setIfInBounds_toArray, List.set_cons_zero, List.set_cons_succ]
            refine g_take 13 (v := ?_) rfl (by kernel_rfl) (fun _ _ _ h => h) hS (by rfl) (fun w' hw' => ?_) ?_
            rotate_left
            · obtain ⟨s0, s1, s2, s3⟩ := hw'; go_simp; try with_reducible rfl
            try simp only [Act.put, List.setIfInBounds_toArray, List.set_cons_zero, List.set_cons_succ]
            refine g_take 14 (v := ?_) rfl (by kernel_rfl) (fun _ _ _ h => h) hS (by rfl) (fun w' hw' => ?_) ?_
            rotate_left
            · obtain ⟨s0, s1, s2, s3⟩ := hw'; go_simp; try with_reducible rfl
            try simp only [Act.put, List.setIfInBounds_toArray, List.set_cons_zero, List.set_cons_succ]
            refine g_take 15 (v := ?_) rfl (by kernel_rfl) (fun _ _ _ h => h) hS (by rfl) (fun w' hw' => ?_) ?_
            rotate_left
            · obtain ⟨s0, s1, s2, s3⟩ := hw'; go_simp; try with_reducible rfl
            try simp only [Act.put, List.setIfInBounds_toArray, List.set_cons_zero, List.set_cons_succ]
            clear hS
            have hC := (hB.alloc (.cells #[.int .i64 (b : Int)] 3)).drew
            refine g_step 16 rfl (by kernel_rfl) (by rfl) (fun K' hK => ?_)
            go_simp
            refine hK _ _ ⟨hC.f4.cellv rfl, hC.f3.cellv rfl, hC.f3.cellv rfl, row_cell hC.f5 a _ (by omega) (by simp [ha])⟩ ?_
            clear hK K'
            try simp only [Act.put, List.setIfInBounds_toArray, List.set_cons_zero, List.set_cons_succ]
            refine g_step 17 rfl (by kernel_rfl) (by rfl) (fun K' hK => ?_)
            refine op_append _ _ 24 rfl hC.f1 Try.underlying24 info3 rfl (by decide) (by rfl) (by rfl) (by rfl) (cell_one_new _ _ _) (by intro u hu; simp at hu; subst hu; rfl) (by unfold maxLen; omega) (by omega) ?_
            intro v' w1 h1 hs1
            obtain ⟨b3, o3, c3, rfl, _⟩ := h1.rowOpen (by omega)
            have hS : w1.cell? ⟨g, 0, none⟩ = some (.slice (some ⟨n1, m1, none⟩) n k1) ∧ w1.cell? ⟨pb, 0, none⟩ = some (.int .i64 (a : Int)) ∧ w1.cell? ⟨pb, 1, none⟩ = some (.int .i64 (b : Int)) ∧ w1.cell? ⟨n1, m1 + a, none⟩ = some (vs a) := ⟨h1.f4.cellv rfl, h1.f3.cellv rfl, h1.f3.cellv rfl, row_cell h1.f5 a _ (by omega) (by simp [ha])⟩
            refine hK _ _ hS ?_
            clear hK K' hC hB d1 d2 d3 d4 d5
            try simp only [Act.put, List.setIfInBounds_toArray, List.set_cons_zero, List.set_cons_succ]
            refine g_take 18 (v := ?_) rfl (by kernel_rfl) (fun _ _ _ h => h) hS (by rfl) (fun w' hw' => ?_) ?_
            rotate_left
            · obtain ⟨s0, s1, s2, s3⟩ := hw'; go_simp; try with_reducible rfl
            try simp only [Act.put, List.setIfInBounds_toArray, List.set_cons_zero, List.set_cons_succ]
            refine g_last 19 rfl (by kernel_rfl) (by kernel_rfl) (by rfl) ?_
            have e1 := hS.2.2.2
            have e2 : w1.frozen? ⟨n1, m1 + a, none⟩ = false := row_free h1.f5 (m1 + a) (by omega)
            go_wp2_with fail
            go_meet
            exact made_mid ha h1
            -- END GEN
          case rest =>
            have h := hcut
            clear hcut
            unfold MadeMid at h
            have hpb := HP.out
            subst hpb
            clear HP c1 c2
            have hb' : b < n := by omega
            obtain ⟨v1, v2, vs, h⟩ := h.f1.webOpen
            have h := (show St w No _ (_ :: _ :: _ :: _ :: _ :: []) from h)
            obtain ⟨n2, m2, k2, rfl, hc2, hf2, -⟩ := h.f2.rowOpen (by omega)
            have hal := aheadOf_length n E
            have hle := aheadOf_le n E b
            have d1 : wc.cell? ⟨n2, m2 + b, none⟩ = some (.int .i64 ((aheadOf n E).getD b 0)) := hc2 b _ (ints_get (by omega))
            have d2 := hf2 (m2 + b)
            have d3 : wc.cell? ⟨wr.heap.size, 1, none⟩ = some (.int .i64 (b : Int)) := h.f4.cellv rfl
            have d4 : wc.cell? ⟨g, 1, none⟩ = some (.slice (some ⟨n2, m2, none⟩) n k2) := h.cellv rfl
            clear hc2 hf2 hal
            generalize hx : (aheadOf n E).getD b 0 = x at *
            have HX := Lib.hid hx
            clear hx
            have hbi : (b : Int) < (n : Int) := by omega
            go_wp2_with fail
            go_region
            all_goals (go_wp2_with fail)
            go_roundw
            case rel =>
              have h1 := (h.f2.rowSet b (.int .i64 (x + 1)) (by omega)).drew.f2.f2
              rw [ints_set, ← HX.out, ← aheadOf_snoc n E a b hb'] at h1
              have h2 := (St.webClose (F := [_]) (next := nextOf (E ++ [(a, b)])) h1).f1.drop1
              rw [← HE.out] at h2
              rw [← HX.out]
              exact ⟨k + 1, by go_num, by omega, h2⟩
            case measure => simp [intOf]; omega
        · have Hno := Lib.hid hok
          clear hok
          go_wp2_with fail
          · exact absurd (show ok n (p1, p2) by unfold ok; simp only; omega) Hno.out
          all_goals
            go_roundw
            case rel => exact made_skip (by omega) Htk.out Hno.out h
            case measure => simp [intOf]; omega
      · have hkl : k = len := by omega
        subst hkl
        go_wp2_with fail
        go_ret
        refine ⟨g, rfl, ?_⟩
        rw [List.take_of_length_le (by rw [Hl.out]; exact Nat.le_refl _)] at h
        exact h
end Go.Proofs.Ytofoibckfkbdoaa
