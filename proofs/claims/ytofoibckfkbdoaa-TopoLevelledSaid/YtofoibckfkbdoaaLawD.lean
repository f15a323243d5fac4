/- walk: TopoLevelled -/
import Derived.Test.YtofoibckfkbdoaaLawC
set_option linter.unusedSimpArgs false
set_option linter.unusedVariables false
namespace Go.Proofs.Ytofoibckfkbdoaa
open Go.RowKit Go.HG

/-! ### plain -/
theorem len_of_all {n : Nat} {ord : List Nat} (h : ∀ k, k < n → k ∈ ord) : n ≤ ord.length := by
  have : ∀ (l m : List Nat), l.Nodup → (∀ x ∈ l, x ∈ m) → l.length ≤ m.length := by
    intro l
    induction l with
    | nil => intro m _ _; simp
    | cons x l ih =>
      intro m hn hs
      have hx := hs x (by simp)
      have := ih (m.erase x) (List.nodup_cons.1 hn).2 (fun y hy => by
        rw [List.mem_erase_of_ne (by rintro rfl; exact (List.nodup_cons.1 hn).1 hy)]
        exact hs y (by simp [hy]))
      rw [List.length_erase_of_mem hx] at this
      have := List.length_pos_of_mem hx
      simp
      omega
  have := this (List.range n) ord List.nodup_range (fun x hx => h x (List.mem_range.1 hx))
  simpa using this
theorem leftTo_pos {n : Nat} {ord : List Nat} (h : ord.length < n) : 0 < (leftTo n ord).length := by
  apply Classical.byContradiction
  intro hn
  have h0 : leftTo n ord = [] := List.eq_nil_of_length_eq_zero (by omega)
  have := len_of_all (n := n) (ord := ord) (fun k hk => by
    apply Classical.byContradiction
    intro hno
    have : k ∈ leftTo n ord := List.mem_filter.2 ⟨List.mem_range.2 hk, by simpa using hno⟩
    rw [h0] at this
    cases this)
  omega
theorem leftTo_nil {n : Nat} {ord : List Nat} (h : ∀ k, k < n → k ∈ ord) : leftTo n ord = [] := by
  unfold leftTo
  rw [List.filter_eq_nil_iff]
  intro k hk
  have := h k (List.mem_range.1 hk)
  simpa using this
theorem idxOf_at {ord : List Nat} (hnd : ord.Nodup) {p k : Nat} (h : ord[p]? = some k) : ord.idxOf k = p := by
  obtain ⟨hp, rfl⟩ := List.getElem?_eq_some_iff.1 h
  exact hnd.idxOf_getElem p hp
def atOf (n : Nat) (ord : List Nat) (q : Nat) : List Int := (List.range n).map fun k => if k ∈ ord.take q then (ord.idxOf k : Int) else 0
theorem atOf_zero (n : Nat) (ord : List Nat) : atOf n ord 0 = List.replicate n 0 := by
  unfold atOf
  apply List.ext_getElem? ; intro i
  by_cases hi : i < n <;> simp [hi]
theorem atOf_length (n : Nat) (ord : List Nat) (q : Nat) : (atOf n ord q).length = n := by simp [atOf]
theorem atOf_succ {n : Nat} {ord : List Nat} (hnd : ord.Nodup) {q k : Nat} (h : ord[q]? = some k) (hk : k < n) : (atOf n ord q).set k (q : Int) = atOf n ord (q + 1) := by
  have hi := idxOf_at hnd h
  obtain ⟨hp, hpk⟩ := List.getElem?_eq_some_iff.1 h
  have ht := List.take_succ_eq_append_getElem hp
  rw [hpk] at ht
  unfold atOf
  rw [ht]
  generalize ord.take q = pre
  apply List.ext_getElem? ; intro i
  rw [List.getElem?_set]
  by_cases e : k = i
  · subst e
    simp [hk, hi]
  · by_cases hin : i < n
    · simp [e, Ne.symm e, hin]
    · simp [e, hin]
theorem atOf_end {n : Nat} {ord : List Nat} (hl : ord.length ≤ n) (hall : ∀ k, k < n → k ∈ ord) {k : Nat} (hk : k < n) : (atOf n ord n).getD k 0 = (ord.idxOf k : Int) := by
  unfold atOf
  rw [List.take_of_length_le hl]
  simp [hk, hall k hk]
theorem RunSpec.at_lt {n : Nat} {E : List (Nat × Nat)} {ord : List Nat} {lv : List Int} (h : RunSpec n E ord lv) (hf : n ≤ ord.length) (hE : ∀ e ∈ E, e.1 < n ∧ e.2 < n) {a b : Nat} (he : (a, b) ∈ E) : ord.idxOf a < ord.idxOf b := by
  obtain ⟨p, hp⟩ := List.mem_iff_getElem?.1 (h.full hf (hE _ he).2)
  obtain ⟨q, hq, ha⟩ := h.ahead (.single he) p hp
  rw [idxOf_at h.nd hp, idxOf_at h.nd ha]
  exact hq

/-! ### the walk -/
def RelT (w : World) (tb n : Nat) (vl vo : Value) (lv : List Int) (ord : List Nat) (u : Value) (wr : World) : Prop :=
  ∃ q : Nat, u = .int .i64 q ∧ q ≤ n ∧ St w No wr [Row 3 1 (.slice (some ⟨tb, 0, none⟩) n n) n (ints (atOf n ord q)), Row 3 1 vl n (ints lv), Row 3 1 vo n (ints (nats ord))]
def RelU (w : World) (len : Nat) (L : List HP) (u : Value) (wr : World) : Prop := ∃ q : Nat, u = .int .i64 q ∧ q ≤ len ∧ St w No wr L

set_option maxHeartbeats 2000000 in
set_option maxRecDepth 100000 in
theorem lawLevelled_ok (n : Int) (len cap : Nat) (A : Option Addr) (ps : List (Int × Int)) (w : World) (hl : ps.length = len) (hr : Rd w A (pcells ps)) :
    Calls Try.prog 6 #[.int .i64 n, .slice A len cap] w (LawPost w) := by
  have HR := Lib.hid hr
  have HL := Lib.hid hl
  clear hr hl
  by_cases hin : (0 ≤ n ∧ n ≤ 60) ∧ len ≤ 200
  rotate_left
  · have hin : n < 0 ∨ (0 ≤ n ∧ 60 < n) ∨ (n ≤ 60 ∧ 0 ≤ n ∧ 200 < len) := by omega
    go_enter Try.func6, Try.ntmps6
    go_wp2_with fail
    refine (fixed_ok _).mono ?_
    rintro e w1 ⟨rfl, h1⟩
    rcases hin with h | ⟨h, h'⟩ | ⟨h, h', h''⟩
    all_goals
      go_wp2_with fail
      go_ret
      exact ⟨rfl, h1⟩
  · obtain ⟨⟨h0, h60⟩, h200⟩ := hin
    obtain ⟨n, rfl⟩ := Int.eq_ofNat_of_zero_le h0
    have hn60 : n ≤ 60 := by omega
    have h256 : n ≤ 256 := by omega
    have hmk := run_make_row' (P := Try.prog) 24 3 (.int .i64 0) 8 Try.underlying24 info3 rfl .i64 .i64 n (by omega) (by omega)
    go_enter Try.func6, Try.ntmps6
    go_wp2_with fail
    refine (fixed_ok _).mono ?_
    rintro e w1 ⟨rfl, h1⟩
    go_wp2_with fail
    refine (order_ok n len cap A ps w1 h256 HL.out (by omega) (HR.out.later h1)).mono ?_
    rintro e w2 ⟨ord, lv, hrun, ⟨hlt, rfl, h2⟩ | ⟨hge, vo, rfl, h2⟩⟩
    · have h2 := h1.frameNil _ _ h2
      clear h1
      go_wp2_with fail
      refine (levels_ok n len cap A ps w2 h256 HL.out (by omega) (HR.out.later h2)).mono ?_
      rintro e w3 ⟨ord2, lv2, hrun2, ⟨_, rfl, h3⟩ | ⟨hge, _⟩⟩
      · have h3 := h2.frameNil _ _ h3
        clear h2
        go_wp2_with fail
        refine (left_ok n len cap A ps w3 h256 HL.out (by omega) (HR.out.later h3)).mono ?_
        rintro e w4 ⟨ord3, lv3, vf, hrun3, rfl, h4⟩
        have hpos := leftTo_pos (n := n) (ord := ord3) (by rw [← hrun.ord_eq hrun3]; exact hlt)
        have h4 := h3.frameNil _ _ h4
        obtain ⟨af, cf, rfl⟩ := h4.rowForm
        have hpi : (0 : Int) < ((leftTo n ord3).length : Int) := by omega
        go_wp2_with fail
        go_ret
        exact ⟨rfl, St.right (L1 := [_]) (L2 := []) h4⟩
      · rw [hrun.ord_eq hrun2] at hlt
        omega
    · have hlen : ord.length = n := by have := hrun.len_le; omega
      rw [hlen] at h2
      have h2 := h1.frameNil _ _ h2
      clear h1
      obtain ⟨ao, co, rfl⟩ := h2.rowForm
      go_wp2_with fail
      refine (levels_ok n len cap A ps w2 h256 HL.out (by omega) (HR.out.later h2)).mono ?_
      rintro e w3 ⟨ord2, lv2, hrun2, ⟨hlt2, _⟩ | ⟨hge2, vl, rfl, h3⟩⟩
      · rw [← hrun.ord_eq hrun2] at hlt2
        omega
      · obtain rfl := hrun.ord_eq hrun2
        have h3 : St w No w3 [Row 3 1 vl n (ints lv2), Row 3 1 (.slice ao n co) n (ints (nats ord))] := h2.frameNil _ _ h3
        obtain ⟨al, cl, rfl⟩ := h3.rowForm
        clear h2 hrun
        have hll := hrun2.lvl
        have HRun := Lib.hid hrun2
        clear hrun2
        go_wp2_with fail
        have h4 := made_zero h3 n h256
        generalize hwb : w3.heap.size = tb at *
        generalize w3.alloc (.cells (madeCells #[.int .i64 0] n) 3) = w4 at *
        clear hwb hmk h3
        rw [← atOf_zero n ord] at h4
        go_loopw [56] (RelT w tb n (.slice al n cl) (.slice ao n co) lv2 ord) (fun u _ => n - (intOf u).toNat)
        case atStart => exact ⟨0, rfl, by omega, h4⟩
        case round =>
          clear h4
          obtain ⟨q, rfl, hq, h⟩ := hrel
          by_cases hlt : q < n
          · obtain ⟨k, hk⟩ : ∃ k, ord[q]? = some k := ⟨_, List.getElem?_eq_getElem (by omega)⟩
            have hkn := HRun.out.lt k (List.mem_of_getElem? hk)
            have hki : (k : Int) < (n : Int) := by omega
            have hqi : (q : Int) < (n : Int) := by omega
            obtain ⟨ob, oo, oc, hov, hoc, -⟩ := h.f2.rowOpen (by omega)
            cases hov
            have d1 : wr.cell? ⟨ob, oo + q, none⟩ = some (.int .i64 (k : Int)) := hoc q _ (by simp [ints, nats, hk])
            have hal := atOf_length n ord q
            have d2 := row_cell h k _ (by omega) (ints_getD (by omega))
            have d3 := row_free h k (by omega)
            have l0 := row_lt h (by omega)
            have hs := h.rowSet k (.int .i64 (q : Int)) (by omega)
            rw [Nat.zero_add, ints_set, atOf_succ HRun.out.nd hk hkn] at hs
            rw [Nat.zero_add] at d2
            clear hoc
            go_wp2_with fail
            go_roundw
            case rel => exact ⟨q + 1, by go_num, by omega, hs⟩
            case measure => simp [intOf]; omega
          · have hqn : n = q := by omega
            subst hqn
            have hall := fun k (hk : k < n) => HRun.out.full hge hk
            have HAll := Lib.hid hall
            clear hall
            go_wp2_with fail
            have hq0 := h
            clear h
            go_loopw [68] (RelU w len [Row 3 1 (.slice (some ⟨tb, 0, none⟩) n n) n (ints (atOf n ord n)), Row 3 1 (.slice al n cl) n (ints lv2), Row 3 1 (.slice ao n co) n (ints (nats ord))]) (fun u _ => len - (intOf u).toNat)
            case atStart => exact ⟨0, rfl, by omega, hq0⟩
            case round =>
              clear hq0
              obtain ⟨q, rfl, hq, h⟩ := hrel
              by_cases hlt : q < len
              · obtain ⟨p, hp⟩ : ∃ p, p = ps[q]'(by rw [HL.out]; exact hlt) := ⟨_, rfl⟩
                obtain ⟨bp, op, rfl, hb, hc⟩ := (HR.out.later h).at_ (by have := HL.out; rw [pcells_length]; omega)
                have hg := pcells_get (ps := ps) (k := q) (by rw [HL.out]; exact hlt)
                rw [← hp] at hg
                have c1 := hc _ _ hg.1
                have c2 := hc _ _ hg.2
                rw [← Nat.add_assoc] at c2
                have hpm : p ∈ ps := by rw [hp]; exact List.getElem_mem _
                clear hg hc hp
                obtain ⟨p1, p2⟩ := p
                simp only at c1 c2
                have hA := (h.alloc (.cells #[.int .i64 p1, .int .i64 p2] 35))
                have d4 := hA.cellv (j := 0) rfl
                have d5 := hA.cellv (j := 1) rfl
                have l0 := row_lt h
                by_cases hok : ok n (p1, p2)
                · obtain ⟨o1, o2, o3, o4⟩ := hok
                  simp only at o1 o2 o3 o4
                  obtain ⟨a, rfl⟩ := Int.eq_ofNat_of_zero_le o1
                  obtain ⟨b, rfl⟩ := Int.eq_ofNat_of_zero_le o3
                  have he : (a, b) ∈ edges n ps := by
                    unfold edges
                    refine List.mem_filterMap.2 ⟨_, hpm, ?_⟩
                    rw [if_pos ⟨o1, o2, o3, o4⟩]; rfl
                  have ha : a < n := by omega
                  have hb' : b < n := by omega
                  have ht := HRun.out.at_lt hge (fun e he => edges_lt he) he
                  have hx := HRun.out.lv1 _ he (HAll.out a ha)
                  simp only at hx
                  have hx' : lv2.getD a 0 < lv2.getD b 0 := by omega
                  have ht' : ((ord.idxOf a : Nat) : Int) < ((ord.idxOf b : Nat) : Int) := by omega
                  have l0 := row_lt h (by omega)
                  obtain ⟨lb, lo, lc, hlv, hlc, -, -, -, -, ll⟩ := hA.f2.rowOpen (by omega)
                  cases hlv
                  have hal := atOf_length n ord n
                  have e1 := row_cell hA.f1 a _ (by omega) (ints_getD (by omega))
                  have e2 := row_cell hA.f1 b _ (by omega) (ints_getD (by omega))
                  rw [Nat.zero_add, atOf_end (by omega) HAll.out ha] at e1
                  rw [Nat.zero_add, atOf_end (by omega) HAll.out hb'] at e2
                  have e3 := hlc a _ (ints_getD (by omega))
                  have e4 := hlc b _ (ints_getD (by omega))
                  clear hlc hx ht he hpm hal
                  generalize ((ord.idxOf a : Nat) : Int) = t1 at *
                  generalize ((ord.idxOf b : Nat) : Int) = t2 at *
                  generalize lv2.getD a 0 = x at *
                  generalize lv2.getD b 0 = y at *
                  go_upto_region 18 with fail
                  generalize hpb : wr.heap.size = pb at *
                  clear hpb
                  generalize wr.alloc (.cells #[.int .i64 (a : Int), .int .i64 (b : Int)] 35) = wp at *
                  go_quiet (fail)
                  go_wp2_with fail
                  go_roundw
                  case rel => exact ⟨q + 1, by go_num, by omega, (hA.drewN _).drop1⟩
                  case measure => simp [intOf]; omega
                · have hno : p1 < 0 ∨ (0 ≤ p1 ∧ (n : Int) ≤ p1) ∨ (0 ≤ p1 ∧ p1 < (n : Int) ∧ p2 < 0) ∨ (0 ≤ p1 ∧ p1 < (n : Int) ∧ 0 ≤ p2 ∧ (n : Int) ≤ p2) := by
                    apply Classical.byContradiction
                    intro hc
                    apply hok
                    unfold ok
                    simp only
                    omega
                  clear hok hpm
                  have hno : decide (0 ≤ p1) = false ∨ (0 ≤ p1 ∧ decide (p1 < (n : Int)) = false) ∨ (0 ≤ p1 ∧ p1 < (n : Int) ∧ decide (0 ≤ p2) = false) ∨ (0 ≤ p1 ∧ p1 < (n : Int) ∧ 0 ≤ p2 ∧ decide (p2 < (n : Int)) = false) := by
                    simp only [decide_eq_false_iff_not]
                    omega
                  rcases hno with o1 | ⟨o1, o2⟩ | ⟨o1, o2, o3⟩ | ⟨o1, o2, o3, o4⟩
                  all_goals
                    go_upto_region 18 with fail
                    generalize hpb : wr.heap.size = pb at *
                    clear hpb
                    generalize wr.alloc (.cells #[.int .i64 p1, .int .i64 p2] 35) = wp at *
                    go_quiet (fail)
                    go_wp2_with fail
                    go_roundw
                    case rel => exact ⟨q + 1, by go_num, by omega, (hA.drewN _).drop1⟩
                    case measure => simp [intOf]; omega
              · have hql : q = len := by omega
                clear hlt hq
                go_wp2_with fail
                go_loop [121] (RelCount n) (fun u => n - (intOf u).toNat)
                case atStart => exact ⟨0, rfl, by omega⟩
                case round =>
                  obtain ⟨k, rfl, hk⟩ := hrel
                  by_cases hkn : k < n
                  · have hki : (k : Int) < (n : Int) := by omega
                    obtain ⟨lb, lo, lc, hlv, hlc, -, -, -, -, ll⟩ := h.f1.rowOpen (by omega)
                    cases hlv
                    have d3 := hlc k _ (ints_getD (by omega))
                    have hb := HRun.out.lv_lt hge hkn
                    have hb1 := hb.1
                    have hb2 := hb.2
                    clear hlc hb
                    generalize lv2.getD k 0 = x at *
                    go_wp2_with fail
                    go_round
                    case rel => refine ⟨_, _, _, ⟨k + 1, ?_, by omega⟩, rfl, rfl, rfl⟩; go_num
                    case measure => simp [intOf]; omega
                  · have hkn : n = k := by omega
                    subst hkn
                    go_wp2_with fail
                    refine (left_ok n len cap A ps wr h256 HL.out (by omega) (HR.out.later h)).mono ?_
                    rintro e w9 ⟨ord3, lv3, vf, hrun3, rfl, h9⟩
                    have hnil : leftTo n ord3 = [] := leftTo_nil (fun k hk => by rw [← HRun.out.ord_eq hrun3]; exact HAll.out k hk)
                    rw [hnil] at h9
                    have h9 := h.frameNil _ _ h9
                    obtain ⟨af, cf, rfl⟩ := h9.rowForm
                    go_wp2_with fail
                    go_ret
                    exact ⟨rfl, St.right (L1 := [_, _, _, _]) (L2 := []) h9⟩
end Go.Proofs.Ytofoibckfkbdoaa
