/- walk: TopoLevels -/
import Derived.Test.YtofoibckfkbdoaaLawB
set_option linter.unusedSimpArgs false
set_option linter.unusedVariables false
namespace Go.Proofs.Ytofoibckfkbdoaa
open Go.RowKit Go.HG

/-! ### plain -/
def wantStep (lv : List Int) (l : List Int) (e : Nat × Nat) : List Int := l.set e.2 (max (l.getD e.2 0) (lv.getD e.1 0 + 1))
def wantOf (n : Nat) (lv : List Int) (E : List (Nat × Nat)) : List Int := E.foldl (wantStep lv) (List.replicate n 0)
theorem wantOf_snoc (n : Nat) (lv : List Int) (E : List (Nat × Nat)) (e : Nat × Nat) : wantOf n lv (E ++ [e]) = wantStep lv (wantOf n lv E) e := by simp [wantOf]
structure WantInv (n : Nat) (lv : List Int) (E : List (Nat × Nat)) (l : List Int) : Prop where
  len : l.length = n
  lo : ∀ i, i < n → 0 ≤ l.getD i 0 ∧ l.getD i 0 ≤ lv.getD i 0
  up : ∀ e ∈ E, lv.getD e.1 0 + 1 ≤ l.getD e.2 0
theorem WantInv.start {n : Nat} {E : List (Nat × Nat)} {ord : List Nat} {lv : List Int} (h : RunSpec n E ord lv) : WantInv n lv [] (List.replicate n 0) where
  len := by simp
  lo := by
    intro i hi
    have := (h.lv2 i hi).1
    simp [hi]
    exact this
  up := by simp
theorem WantInv.step {n : Nat} {E E' : List (Nat × Nat)} {ord : List Nat} {lv l : List Int} (h : RunSpec n E ord lv) (hf : n ≤ ord.length) (hE : ∀ e ∈ E, e.1 < n ∧ e.2 < n) (hw : WantInv n lv E' l) {e : Nat × Nat} (he : e ∈ E) : WantInv n lv (E' ++ [e]) (wantStep lv l e) := by
  have he1 := hE e he
  have hl1 := h.lv1 e he (h.full hf he1.1)
  have hlen := hw.len
  have hg : ∀ i, (wantStep lv l e).getD i 0 = if i = e.2 then max (l.getD e.2 0) (lv.getD e.1 0 + 1) else l.getD i 0 := by
    intro i
    unfold wantStep
    rw [getD_set (by omega)]
  refine ⟨by simp [wantStep, hlen], ?_, ?_⟩
  · intro i hi
    rw [hg]
    have := hw.lo i hi
    split
    · rename_i e2; subst e2; omega
    · exact this
  · intro e' he'
    rw [hg]
    rcases List.mem_append.1 he' with h1 | h1
    · have := hw.up e' h1
      split
      · rename_i e2; rw [e2] at this; omega
      · exact this
    · simp at h1
      subst h1
      rw [if_pos rfl]
      omega
theorem WantInv.all {n : Nat} {E : List (Nat × Nat)} {ord : List Nat} {lv : List Int} (h : RunSpec n E ord lv) (hf : n ≤ ord.length) (hE : ∀ e ∈ E, e.1 < n ∧ e.2 < n) : ∀ E', (∀ e ∈ E', e ∈ E) → WantInv n lv E' (wantOf n lv E') := by
  intro E'
  have : ∀ (l m : List (Nat × Nat)) (x : List Int), WantInv n lv m x → (∀ e ∈ l, e ∈ E) → WantInv n lv (m ++ l) (l.foldl (wantStep lv) x) := by
    intro l
    induction l with
    | nil => intro m x hm _; simpa using hm
    | cons e l ih =>
      intro m x hm hs
      have h1 := hm.step h hf hE (hs e (by simp))
      have := ih (m ++ [e]) _ h1 (fun e' he' => hs e' (by simp [he']))
      simpa using this
  intro hs
  have := this E' [] _ (WantInv.start h) hs
  simpa [wantOf] using this
theorem WantInv.eq {n : Nat} {E : List (Nat × Nat)} {ord : List Nat} {lv l : List Int} (h : RunSpec n E ord lv) (hw : WantInv n lv E l) {i : Nat} (hi : i < n) : l.getD i 0 = lv.getD i 0 := by
  have h1 := hw.lo i hi
  rcases (h.lv2 i hi).2 with h2 | ⟨e, he, rfl, _, h2⟩
  · omega
  · have := hw.up e he
    omega
theorem RunSpec.lv_lt {n : Nat} {E : List (Nat × Nat)} {ord : List Nat} {lv : List Int} (h : RunSpec n E ord lv) (hf : n ≤ ord.length) {i : Nat} (hi : i < n) : 0 ≤ lv.getD i 0 ∧ lv.getD i 0 < n := by
  refine ⟨(h.lv2 i hi).1, ?_⟩
  obtain ⟨p, hp⟩ := List.mem_iff_getElem?.1 (h.full hf hi)
  have h1 := h.lvb p i hp
  have h2 := (List.getElem?_eq_some_iff.1 hp).1
  have := h.len_le
  omega
theorem edges_take_mem {n q : Nat} {ps : List (Int × Int)} : ∀ e ∈ edges n (ps.take q), e ∈ edges n ps := by
  intro e he
  unfold edges at he ⊢
  obtain ⟨p, hp, hh⟩ := List.mem_filterMap.1 he
  exact List.mem_filterMap.2 ⟨p, List.mem_of_mem_take hp, hh⟩

/-! ### the walk -/
def RelW (w : World) (wb n : Nat) (vl : Value) (lv : List Int) (ps : List (Int × Int)) (F : List HP) (u : Value) (wr : World) : Prop :=
  ∃ q : Nat, u = .int .i64 q ∧ q ≤ ps.length ∧ St w No wr (Row 3 1 (.slice (some ⟨wb, 0, none⟩) n n) n (ints (wantOf n lv (edges n (ps.take q)))) :: Row 3 1 vl n (ints lv) :: F)
def RelCount (n : Nat) (u : Value) : Prop := ∃ k : Nat, u = .int .i64 k ∧ k ≤ n
theorem ints_getD {l : List Int} {i : Nat} (h : i < l.length) : (ints l)[i]? = some (.int .i64 (l.getD i 0)) := by
  simp [ints, h]

attribute [local irreducible] wpStill
set_option maxHeartbeats 2000000 in
set_option maxRecDepth 100000 in
theorem lawLevels_ok (n : Int) (len cap : Nat) (A : Option Addr) (ps : List (Int × Int)) (w : World) (hl : ps.length = len) (hr : Rd w A (pcells ps)) :
    Calls Try.prog 5 #[.int .i64 n, .slice A len cap] w (LawPost w) := by
  have HR := Lib.hid hr
  have HL := Lib.hid hl
  clear hr hl
  by_cases hin : (0 ≤ n ∧ n ≤ 60) ∧ len ≤ 200
  rotate_left
  · have hin : 60 < n ∨ (n ≤ 60 ∧ n < 0) ∨ (n ≤ 60 ∧ 0 ≤ n ∧ 200 < len) := by omega
    go_enter Try.func5, Try.ntmps5
    go_wp2_with fail
    refine (fixed_ok _).mono ?_
    rintro e w1 ⟨rfl, h1⟩
    rcases hin with h | ⟨h, h'⟩ | ⟨h, h', h''⟩
    all_goals
      go_wp2_with fail
      go_ret
      exact ⟨rfl, h1⟩
  · obtain ⟨⟨h0, h60⟩, h200⟩ := hin
    obtain ⟨n, rfl⟩ := Int.eq_ofNat_of_zero_le h0
    have hn60 : n ≤ 60 := by omega
    have h256 : n ≤ 256 := by omega
    have hmk := run_make_row' (P := Try.prog) 24 3 (.int .i64 0) 8 Try.underlying24 info3 rfl .i64 .i64 n (by omega) (by omega)
    go_enter Try.func5, Try.ntmps5
    go_wp2_with fail
    refine (fixed_ok _).mono ?_
    rintro e w1 ⟨rfl, h1⟩
    go_wp2_with fail
    refine (levels_ok n len cap A ps w1 h256 HL.out (by omega) (HR.out.later h1)).mono ?_
    rintro e w2 ⟨ord, lv, hrun, ⟨hlt, rfl, h2⟩ | ⟨hge, vl, rfl, h2⟩⟩
    · have h2 := h1.frameNil _ _ h2
      clear h1
      go_wp2_with fail
      refine (order_ok n len cap A ps w2 h256 HL.out (by omega) (HR.out.later h2)).mono ?_
      rintro e w3 ⟨ord2, lv2, hrun2, ⟨_, rfl, h3⟩ | ⟨hge, _⟩⟩
      · have h3 := h2.frameNil _ _ h3
        clear h2
        go_wp2_with fail
        go_ret
        exact ⟨rfl, h3⟩
      · rw [hrun.ord_eq hrun2] at hlt
        omega
    · have h2 := h1.frameNil _ _ h2
      clear h1
      obtain ⟨al, cl, rfl⟩ := h2.rowForm
      go_wp2_with fail
      refine (order_ok n len cap A ps w2 h256 HL.out (by omega) (HR.out.later h2)).mono ?_
      rintro e w3 ⟨ord2, lv2, hrun2, ⟨hlt2, _⟩ | ⟨hge2, vo, rfl, h3⟩⟩
      · rw [← hrun.ord_eq hrun2] at hlt2
        omega
      · have h3 := h2.frameNil _ _ h3
        have h3 : St w No w3 [Row 3 1 (.slice al n cl) n (ints lv), _] := h3.f1
        clear h2
        go_wp2_with fail
        have h4 := made_zero h3 n h256
        have hA := WantInv.all hrun hge (fun e he => edges_lt he)
        have HA := Lib.hid hA
        have HRun := Lib.hid hrun
        clear hA
        have hll := hrun.lvl
        have hb := fun i (hi : i < n) => hrun.lv_lt hge hi
        have HB := Lib.hid hb
        clear hb hrun hrun2 hge2
        generalize hwb : w3.heap.size = wb at *
        generalize w3.alloc (.cells (madeCells #[.int .i64 0] n) 3) = w4 at *
        clear hwb hmk h3
        go_loopw [51] (RelW w wb n (.slice al n cl) lv ps [Row 3 1 vo ord2.length (ints (nats ord2))]) (fun u _ => len - (intOf u).toNat)
        case atStart => exact ⟨0, rfl, by omega, h4⟩
        case round =>
          clear h4
          obtain ⟨q, rfl, hq, h⟩ := hrel
          by_cases hlt : q < len
          · obtain ⟨p, hp⟩ : ∃ p, p = ps[q]'(by rw [HL.out]; exact hlt) := ⟨_, rfl⟩
            obtain ⟨bp, op, rfl, hb, hc⟩ := (HR.out.later h).at_ (by have := HL.out; rw [pcells_length]; omega)
            have hg := pcells_get (ps := ps) (k := q) (by rw [HL.out]; exact hlt)
            rw [← hp] at hg
            have c1 := hc _ _ hg.1
            have c2 := hc _ _ hg.2
            rw [← Nat.add_assoc] at c2
            have htk : ps.take (q + 1) = ps.take q ++ [p] := by rw [List.take_succ_eq_append_getElem (by rw [HL.out]; exact hlt), hp]
            have Htk := Lib.hid htk
            clear hg hc hp htk
            obtain ⟨p1, p2⟩ := p
            simp only at c1 c2
            by_cases hok : ok n (p1, p2)
            · obtain ⟨o1, o2, o3, o4⟩ := hok
              simp only at o1 o2 o3 o4
              obtain ⟨a, rfl⟩ := Int.eq_ofNat_of_zero_le o1
              obtain ⟨b, rfl⟩ := Int.eq_ofNat_of_zero_le o3
              have hE : wantOf n lv (edges n (ps.take (q + 1))) = wantStep lv (wantOf n lv (edges n (ps.take q))) (a, b) := by
                rw [Htk.out, edges_snoc, if_pos ⟨o1, o2, o3, o4⟩, ← wantOf_snoc]; simp
              have HE := Lib.hid hE
              clear hE Htk
              have ha : a < n := by omega
              have hb' : b < n := by omega
              have hA : St w No _ (Row 3 1 (.slice (some ⟨wb, 0, none⟩) n n) n (ints (wantOf n lv (edges n (ps.take q)))) :: Row 3 1 (.slice al n cl) n (ints lv) :: Row 3 1 vo ord2.length (ints (nats ord2)) :: Pt wr.heap.size (.cells #[.int .i64 (a : Int), .int .i64 (b : Int)] 35 (0, 0)) :: []) := (h.alloc (.cells #[.int .i64 (a : Int), .int .i64 (b : Int)] 35)).b3
              have hinv := HA.out (edges n (ps.take q)) edges_take_mem
              have hwl := hinv.len
              have hwb := hinv.lo b hb'
              have hxb := HB.out a ha
              have hyb := HB.out b hb'
              obtain ⟨x, hx⟩ : ∃ x, (wantOf n lv (edges n (ps.take q))).getD b 0 = x := ⟨_, rfl⟩
              obtain ⟨y, hy⟩ : ∃ y, lv.getD a 0 = y := ⟨_, rfl⟩
              obtain ⟨lb, lo, lc, hlv, hlc, -, -, -, -, ll⟩ := hA.f1.rowOpen (by omega)
              cases hlv
              have d1 := row_cell hA b _ (by omega) (ints_getD (by omega))
              have d2 := row_free hA b (by omega)
              have d3 := hlc a _ (ints_getD (by omega))
              have d4 := hA.f3.cellv (j := 0) rfl
              have d5 := hA.f3.cellv (j := 1) rfl
              have l0 := row_lt h (by omega)
              have hst : ∀ v, v = max x (y + 1) → RelW w wb n (.slice (some ⟨lb, lo, none⟩) n cl) lv ps [Row 3 1 vo ord2.length (ints (nats ord2))] (.int .i64 ((q : Int) + 1)) ((wr.alloc (.cells #[.int .i64 (a : Int), .int .i64 (b : Int)] 35)).drew.setCell ⟨wb, b, none⟩ (.int .i64 v)) := by
                rintro v rfl
                have h1 := hA.drew.rowSet b (.int .i64 (max x (y + 1))) (by omega)
                rw [Nat.zero_add, ints_set] at h1
                refine ⟨q + 1, by go_num, by have := HL.out; omega, ?_⟩
                rw [HE.out]
                unfold wantStep
                simp only
                rw [hx, hy]
                exact h1.f3.drop1
              rw [hx] at hwb d1
              rw [hy] at hxb d3
              rw [Nat.zero_add] at d1
              have hwb1 := hwb.1
              have hxb1 := hxb.1
              have hxb2 := hxb.2
              have HST := Lib.hid hst
              clear hst hx hy hlc hinv hwb hxb hyb hwl
              go_upto_region 14 with fail
              generalize hpb : wr.heap.size = pb at *
              clear hpb
              generalize wr.alloc (.cells #[.int .i64 (a : Int), .int .i64 (b : Int)] 35) = wp at *
              by_cases hxy : x < y + 1
              · refine g_begin 16 (fun w' => w'.cell? ⟨pb, 0, none⟩ = some (.int .i64 (a : Int)) ∧ w'.cell? ⟨pb, 1, none⟩ = some (.int .i64 (b : Int)) ∧ w'.cell? ⟨wb, b, none⟩ = some (.int .i64 x) ∧ w'.cell? ⟨lb, lo + a, none⟩ = some (.int .i64 y)) (by kernel_rfl) ?_
                have hS : wp.drew.cell? ⟨pb, 0, none⟩ = some (.int .i64 (a : Int)) ∧ wp.drew.cell? ⟨pb, 1, none⟩ = some (.int .i64 (b : Int)) ∧ wp.drew.cell? ⟨wb, b, none⟩ = some (.int .i64 x) ∧ wp.drew.cell? ⟨lb, lo + a, none⟩ = some (.int .i64 y) := ⟨d4, d5, d1, d3⟩
                refine g_take 0 (v := ?_) rfl (by kernel_rfl) (fun _ _ _ h => h) hS (by rfl) (fun w' hw' => ?_) ?_
                rotate_left
                · obtain ⟨s0, s1, s2, s3⟩ := hw'; go_simp; try with_reducible rfl
                try simp only [Act.put, List.setIfInBounds_toArray, List.set_cons_zero, List.set_cons_succ]
                refine g_take 1 (v := ?_) rfl (by kernel_rfl) (fun _ _ _ h => h) hS (by rfl) (fun w' hw' => ?_) ?_
                rotate_left
                · obtain ⟨s0, s1, s2, s3⟩ := hw'; go_simp; try with_reducible rfl
                try simp only [Act.put, List.setIfInBounds_toArray, List.set_cons_zero, List.set_cons_succ]
                refine g_take 2 (v := ?_) rfl (by kernel_rfl) (fun _ _ _ h => h) hS (by rfl) (fun w' hw' => ?_) ?_
                rotate_left
                · obtain ⟨s0, s1, s2, s3⟩ := hw'; go_simp; try with_reducible rfl
                try simp only [Act.put, List.setIfInBounds_toArray, List.set_cons_zero, List.set_cons_succ]
                refine g_take 3 (v := ?_) rfl (by kernel_rfl) (fun _ _ _ h => h) hS (by rfl) (fun w' hw' => ?_) ?_
                rotate_left
                · obtain ⟨s0, s1, s2, s3⟩ := hw'; go_simp; try with_reducible rfl
                try simp only [Act.put, List.setIfInBounds_toArray, List.set_cons_zero, List.set_cons_succ]
                refine g_take 4 (v := ?_) rfl (by kernel_rfl) (fun _ _ _ h => h) hS (by rfl) (fun w' hw' => ?_) ?_
                rotate_left
                · obtain ⟨s0, s1, s2, s3⟩ := hw'; go_simp; try with_reducible rfl
                try simp only [Act.put, List.setIfInBounds_toArray, List.set_cons_zero, List.set_cons_succ]
                refine g_take 5 (v := ?_) rfl (by kernel_rfl) (fun _ _ _ h => h) hS (by rfl) (fun w' hw' => ?_) ?_
                rotate_left
                · obtain ⟨s0, s1, s2, s3⟩ := hw'; go_simp; try with_reducible rfl
                try simp only [Act.put, List.setIfInBounds_toArray, List.set_cons_zero, List.set_cons_succ]
                refine g_take 6 (v := ?_) rfl (by kernel_rfl) (fun _ _ _ h => h) hS (by rfl) (fun w' hw' => ?_) ?_
                rotate_left
                · obtain ⟨s0, s1, s2, s3⟩ := hw'; go_simp; try with_reducible rfl
                try simp only [Act.put, List.setIfInBounds_toArray, List.set_cons_zero, List.set_cons_succ]
                refine g_take 7 (v := ?_) rfl (by kernel_rfl) (fun _ _ _ h => h) hS (by rfl) (fun w' hw' => ?_) ?_
                rotate_left
                · obtain ⟨s0, s1, s2, s3⟩ := hw'; go_simp; try with_reducible rfl
                try simp only [Act.put, List.setIfInBounds_toArray, List.set_cons_zero, List.set_cons_succ]
                refine g_take 8 (v := ?_) rfl (by kernel_rfl) (fun _ _ _ h => h) hS (by rfl) (fun w' hw' => ?_) ?_
                rotate_left
                · obtain ⟨s0, s1, s2, s3⟩ := hw'; go_simp; try with_reducible rfl
                try simp only [Act.put, List.setIfInBounds_toArray, List.set_cons_zero, List.set_cons_succ]
                refine g_take 9 (v := ?_) rfl (by kernel_rfl) (fun _ _ _ h => h) hS (by rfl) (fun w' hw' => ?_) ?_
                rotate_left
                · obtain ⟨s0, s1, s2, s3⟩ := hw'; go_simp; try with_reducible rfl
                try simp only [Act.put, List.setIfInBounds_toArray, List.set_cons_zero, List.set_cons_succ]
                refine g_take 10 (v := ?_) rfl (by kernel_rfl) (fun _ _ _ h => h) hS (by rfl) (fun w' hw' => ?_) ?_
                rotate_left
                · obtain ⟨s0, s1, s2, s3⟩ := hw'; go_simp; try with_reducible rfl
                try simp only [Act.put, List.setIfInBounds_toArray, List.set_cons_zero, List.set_cons_succ]
                refine g_take 11 (v := ?_) rfl (by kernel_rfl) (fun _ _ _ h => h) hS (by rfl) (fun w' hw' => ?_) ?_
                rotate_left
                · obtain ⟨s0, s1, s2, s3⟩ := hw'; go_simp; try with_reducible rfl
                try simp only [Act.put, List.setIfInBounds_toArray, List.set_cons_zero, List.set_cons_succ]
                refine g_take 12 (v := ?_) rfl (by kernel_rfl) (fun _ _ _ h => h) hS (by rfl) (fun w' hw' => ?_) ?_
                rotate_left
                · obtain ⟨s0, s1, s2, s3⟩ := hw'; go_simp; try with_reducible rfl
                try simp only [Act.put, List.setIfInBounds_toArray, List.set_cons_zero, List.set_cons_succ]
                refine g_take 13 (v := ?_) rfl (by kernel_rfl) (fun _ _ _ h => h) hS (by rfl) (fun w' hw' => ?_) ?_
                rotate_left
                · obtain ⟨s0, s1, s2, s3⟩ := hw'; go_simp; try with_reducible rfl
                try simp only [Act.put, List.setIfInBounds_toArray, List.set_cons_zero, List.set_cons_succ]
                refine g_take 14 (v := ?_) rfl (by kernel_rfl) (fun _ _ _ h => h) hS (by rfl) (fun w' hw' => ?_) ?_
                rotate_left
                · obtain ⟨s0, s1, s2, s3⟩ := hw'; go_simp; try with_reducible rfl
                try simp only [Act.put, List.setIfInBounds_toArray, List.set_cons_zero, List.set_cons_succ]
                refine g_take 15 (v := ?_) rfl (by kernel_rfl) (fun _ _ _ h => h) hS (by rfl) (fun w' hw' => ?_) ?_
                rotate_left
                · obtain ⟨s0, s1, s2, s3⟩ := hw'; go_simp; try with_reducible rfl
                try simp only [Act.put, List.setIfInBounds_toArray, List.set_cons_zero, List.set_cons_succ]
                refine g_last 16 rfl (by kernel_rfl) (by kernel_rfl) (by rfl) ?_
                go_wp2_with fail
                go_roundw
                case rel => exact HST.out _ (by omega)
                case measure => simp [intOf]; omega
              · have hxy : y + 1 ≤ x := by omega
                refine g_begin 16 (fun w' => w'.cell? ⟨pb, 0, none⟩ = some (.int .i64 (a : Int)) ∧ w'.cell? ⟨pb, 1, none⟩ = some (.int .i64 (b : Int)) ∧ w'.cell? ⟨wb, b, none⟩ = some (.int .i64 x) ∧ w'.cell? ⟨lb, lo + a, none⟩ = some (.int .i64 y)) (by kernel_rfl) ?_
                have hS : wp.drew.cell? ⟨pb, 0, none⟩ = some (.int .i64 (a : Int)) ∧ wp.drew.cell? ⟨pb, 1, none⟩ = some (.int .i64 (b : Int)) ∧ wp.drew.cell? ⟨wb, b, none⟩ = some (.int .i64 x) ∧ wp.drew.cell? ⟨lb, lo + a, none⟩ = some (.int .i64 y) := ⟨d4, d5, d1, d3⟩
                refine g_take 0 (v := ?_) rfl (by kernel_rfl) (fun _ _ _ h => h) hS (by rfl) (fun w' hw' => ?_) ?_
                rotate_left
                · obtain ⟨s0, s1, s2, s3⟩ := hw'; go_simp; try with_reducible rfl
                try simp only [Act.put, List.setIfInBounds_toArray, List.set_cons_zero, List.set_cons_succ]
                refine g_take 1 (v := ?_) rfl (by kernel_rfl) (fun _ _ _ h => h) hS (by rfl) (fun w' hw' => ?_) ?_
                rotate_left
                · obtain ⟨s0, s1, s2, s3⟩ := hw'; go_simp; try with_reducible rfl
                try simp only [Act.put, List.setIfInBounds_toArray, List.set_cons_zero, List.set_cons_succ]
                refine g_take 2 (v := ?_) rfl (by kernel_rfl) (fun _ _ _ h => h) hS (by rfl) (fun w' hw' => ?_) ?_
                rotate_left
                · obtain ⟨s0, s1, s2, s3⟩ := hw'; go_simp; try with_reducible rfl
                try simp only [Act.put, List.setIfInBounds_toArray, List.set_cons_zero, List.set_cons_succ]
                refine g_take 3 (v := ?_) rfl (by kernel_rfl) (fun _ _ _ h => h) hS (by rfl) (fun w' hw' => ?_) ?_
                rotate_left
                · obtain ⟨s0, s1, s2, s3⟩ := hw'; go_simp; try with_reducible rfl
                try simp only [Act.put, List.setIfInBounds_toArray, List.set_cons_zero, List.set_cons_succ]
                refine g_take 4 (v := ?_) rfl (by kernel_rfl) (fun _ _ _ h => h) hS (by rfl) (fun w' hw' => ?_) ?_
                rotate_left
                · obtain ⟨s0, s1, s2, s3⟩ := hw'; go_simp; try with_reducible rfl
                try simp only [Act.put, List.setIfInBounds_toArray, List.set_cons_zero, List.set_cons_succ]
                refine g_take 5 (v := ?_) rfl (by kernel_rfl) (fun _ _ _ h => h) hS (by rfl) (fun w' hw' => ?_) ?_
                rotate_left
                · obtain ⟨s0, s1, s2, s3⟩ := hw'; go_simp; try with_reducible rfl
                try simp only [Act.put, List.setIfInBounds_toArray, List.set_cons_zero, List.set_cons_succ]
                refine g_take 6 (v := ?_) rfl (by kernel_rfl) (fun _ _ _ h => h) hS (by rfl) (fun w' hw' => ?_) ?_
                rotate_left
                · obtain ⟨s0, s1, s2, s3⟩ := hw'; go_simp; try with_reducible rfl
                try simp only [Act.put, List.setIfInBounds_toArray, List.set_cons_zero, List.set_cons_succ]
                refine g_take 7 (v := ?_) rfl (by kernel_rfl) (fun _ _ _ h => h) hS (by rfl) (fun w' hw' => ?_) ?_
                rotate_left
                · obtain ⟨s0, s1, s2, s3⟩ := hw'; go_simp; try with_reducible rfl
                try simp only [Act.put, List.setIfInBounds_toArray, List.set_cons_zero, List.set_cons_succ]
                refine g_take 8 (v := ?_) rfl (by kernel_rfl) (fun _ _ _ h => h) hS (by rfl) (fun w' hw' => ?_) ?_
                rotate_left
                · obtain ⟨s0, s1, s2, s3⟩ := hw'; go_simp; try with_reducible rfl
                try simp only [Act.put, List.setIfInBounds_toArray, List.set_cons_zero, List.set_cons_succ]
                refine g_take 9 (v := ?_) rfl (by kernel_rfl) (fun _ _ _ h => h) hS (by rfl) (fun w' hw' => ?_) ?_
                rotate_left
                · obtain ⟨s0, s1, s2, s3⟩ := hw'; go_simp; try with_reducible rfl
                try simp only [Act.put, List.setIfInBounds_toArray, List.set_cons_zero, List.set_cons_succ]
                refine g_take 10 (v := ?_) rfl (by kernel_rfl) (fun _ _ _ h => h) hS (by rfl) (fun w' hw' => ?_) ?_
                rotate_left
                · obtain ⟨s0, s1, s2, s3⟩ := hw'; go_simp; try with_reducible rfl
                try simp only [Act.put, List.setIfInBounds_toArray, List.set_cons_zero, List.set_cons_succ]
                refine g_take 11 (v := ?_) rfl (by kernel_rfl) (fun _ _ _ h => h) hS (by rfl) (fun w' hw' => ?_) ?_
                rotate_left
                · obtain ⟨s0, s1, s2, s3⟩ := hw'; go_simp; try with_reducible rfl
                try simp only [Act.put, List.setIfInBounds_toArray, List.set_cons_zero, List.set_cons_succ]
                refine g_take 12 (v := ?_) rfl (by kernel_rfl) (fun _ _ _ h => h) hS (by rfl) (fun w' hw' => ?_) ?_
                rotate_left
                · obtain ⟨s0, s1, s2, s3⟩ := hw'; go_simp; try with_reducible rfl
                try simp only [Act.put, List.setIfInBounds_toArray, List.set_cons_zero, List.set_cons_succ]
                refine g_take 13 (v := ?_) rfl (by kernel_rfl) (fun _ _ _ h => h) hS (by rfl) (fun w' hw' => ?_) ?_
                rotate_left
                · obtain ⟨s0, s1, s2, s3⟩ := hw'; go_simp; try with_reducible rfl
                try simp only [Act.put, List.setIfInBounds_toArray, List.set_cons_zero, List.set_cons_succ]
                refine g_take 14 (v := ?_) rfl (by kernel_rfl) (fun _ _ _ h => h) hS (by rfl) (fun w' hw' => ?_) ?_
                rotate_left
                · obtain ⟨s0, s1, s2, s3⟩ := hw'; go_simp; try with_reducible rfl
                try simp only [Act.put, List.setIfInBounds_toArray, List.set_cons_zero, List.set_cons_succ]
                refine g_take 15 (v := ?_) rfl (by kernel_rfl) (fun _ _ _ h => h) hS (by rfl) (fun w' hw' => ?_) ?_
                rotate_left
                · obtain ⟨s0, s1, s2, s3⟩ := hw'; go_simp; try with_reducible rfl
                try simp only [Act.put, List.setIfInBounds_toArray, List.set_cons_zero, List.set_cons_succ]
                refine g_last 16 rfl (by kernel_rfl) (by kernel_rfl) (by rfl) ?_
                go_wp2_with fail
                go_roundw
                case rel => exact HST.out _ (by omega)
                case measure => simp [intOf]; omega
            · have Hno := Lib.hid hok
              clear hok
              have hE : edges n (ps.take (q + 1)) = edges n (ps.take q) := by
                rw [Htk.out, edges_snoc, if_neg Hno.out, List.append_nil]
              have HE := Lib.hid hE
              clear hE
              go_wp2_with fail
              · exact absurd (show ok n (p1, p2) by unfold ok; simp only; omega) Hno.out
              all_goals
                go_roundw
                case rel => exact ⟨q + 1, by go_num, by have := HL.out; omega, by rw [HE.out]; exact (h.alloc _).drop1⟩
                case measure => simp [intOf]; omega
          · have hql : q = len := by have := HL.out; omega
            subst hql
            rw [List.take_of_length_le (by rw [HL.out]; exact Nat.le_refl _)] at h
            have hinv := HA.out (edges n ps) (fun _ h => h)
            have heq := fun i (hi : i < n) => hinv.eq HRun.out hi
            have hwl := hinv.len
            have HQ := Lib.hid heq
            clear heq hinv HR hq
            go_wp2_with fail
            have hw0 := h
            clear h
            go_loopw [94] (fun u wx => RelCount n u ∧ St w No wx [Row 3 1 (.slice (some ⟨wb, 0, none⟩) n n) n (ints (wantOf n lv (edges n ps))), Row 3 1 (.slice al n cl) n (ints lv), Row 3 1 vo ord2.length (ints (nats ord2))]) (fun u _ => n - (intOf u).toNat)
            case atStart => exact ⟨⟨0, rfl, by omega⟩, hw0⟩
            case round =>
              clear hw0
              obtain ⟨⟨k, rfl, hk⟩, h⟩ := hrel
              by_cases hkn : k < n
              · have hki : (k : Int) < (n : Int) := by omega
                obtain ⟨lb, lo, lc, hlv, hlc, -, -, -, -, ll⟩ := h.f1.rowOpen (by omega)
                cases hlv
                have d1 := row_cell h k _ (by omega) (ints_getD (by omega))
                have d3 := hlc k _ (ints_getD (by omega))
                have l0 := row_lt h (by omega)
                rw [HQ.out k hkn, Nat.zero_add] at d1
                clear hlc
                generalize lv.getD k 0 = x at *
                go_upto_region 19 with fail
                go_quiet (fail)
                go_wp2_with fail
                go_roundw
                case rel => exact ⟨⟨k + 1, by go_num, by omega⟩, h.drewN _⟩
                case measure => simp [intOf]; omega
              · have hkn : n = k := by omega
                subst hkn
                go_wp2_with fail
                go_ret
                exact ⟨rfl, St.right (L1 := [_, _, _]) (L2 := []) h⟩
end Go.Proofs.Ytofoibckfkbdoaa
