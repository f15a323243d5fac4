/- walk: TopoOrder -/
import Derived.Test.YtofoibckfkbdoaaLawA
set_option linter.unusedSimpArgs false
set_option linter.unusedVariables false
namespace Go.Proofs.Ytofoibckfkbdoaa
open Go.RowKit Go.HG

/-! ### plain -/
theorem RunSpec.full {n : Nat} {E : List (Nat × Nat)} {ord : List Nat} {lv : List Int} (h : RunSpec n E ord lv) (hf : n ≤ ord.length) {k : Nat} (hk : k < n) : k ∈ ord := by
  apply Classical.byContradiction
  intro hno
  have h1 := nodup_le (n := n) (l := k :: ord) (List.nodup_cons.2 ⟨hno, h.nd⟩) (by intro x hx; rcases List.mem_cons.1 hx with rfl | hx; exact hk; exact h.lt x hx)
  simp at h1
  omega
theorem RunSpec.len_le {n : Nat} {E : List (Nat × Nat)} {ord : List Nat} {lv : List Int} (h : RunSpec n E ord lv) : ord.length ≤ n := nodup_le h.nd h.lt
def ringTo (M : Mx) (i : Nat) : Bool := (List.range i).any fun j => M j j
theorem ringTo_succ (M : Mx) (i : Nat) : ringTo M (i + 1) = (ringTo M i || M i i) := by simp [ringTo, List.range_succ, List.any_append]
theorem RunSpec.ring {n : Nat} {E : List (Nat × Nat)} {ord : List Nat} {lv : List Int} (h : RunSpec n E ord lv) (hE : ∀ e ∈ E, e.1 < n ∧ e.2 < n) {M : Mx} (hM : ∀ a b, M a b = true ↔ Leads E a b) :
    ringTo M n = true ↔ ord.length < n := by
  constructor
  · intro hr
    simp only [ringTo, List.any_eq_true, List.mem_range] at hr
    obtain ⟨i, hi, hm⟩ := hr
    have hno := h.noRing ((hM i i).1 hm)
    rcases Nat.lt_or_ge ord.length n with h1 | h1
    · exact h1
    · exact absurd (h.full h1 hi) hno
  · intro hlt
    apply Classical.byContradiction
    intro hr
    have hall : ∀ k, k < n → k ∈ ord := by
      intro k hk
      apply Classical.byContradiction
      intro hno
      rcases (h.stuck hE hk).1 hno with h1 | ⟨i, hi, h1, _⟩
      · exact hr (by simp only [ringTo, List.any_eq_true, List.mem_range]; exact ⟨k, hk, (hM k k).2 h1⟩)
      · exact hr (by simp only [ringTo, List.any_eq_true, List.mem_range]; exact ⟨i, hi, (hM i i).2 h1⟩)
    have h2 : (List.range n).length ≤ ord.length := by
      have : ∀ (l m : List Nat), l.Nodup → (∀ x ∈ l, x ∈ m) → l.length ≤ m.length := by
        intro l
        induction l with
        | nil => intro m _ _; simp
        | cons x l ih =>
          intro m hn hs
          have hx := hs x (by simp)
          have := ih (m.erase x) (List.nodup_cons.1 hn).2 (fun y hy => by
            rw [List.mem_erase_of_ne (by rintro rfl; exact (List.nodup_cons.1 hn).1 hy)]
            exact hs y (by simp [hy]))
          rw [List.length_erase_of_mem hx] at this
          have := List.length_pos_of_mem hx
          simp
          omega
      exact this _ _ List.nodup_range (fun x hx => hall x (List.mem_range.1 hx))
    simp at h2
    omega
def mayTo (c : Nat → Bool) (M : Mx) (k j : Nat) : Bool := (List.range j).all fun x => c x || !M x k
theorem mayTo_succ (c : Nat → Bool) (M : Mx) (k j : Nat) : mayTo c M k (j + 1) = (mayTo c M k j && (c j || !M j k)) := by simp [mayTo, List.range_succ, List.all_append]
theorem mayTo_spec {n : Nat} {E : List (Nat × Nat)} {pre : List Nat} (hE : ∀ e ∈ E, e.1 < n ∧ e.2 < n) {M : Mx} (hM : ∀ a b, M a b = true ↔ Leads E a b) (hcl : ∀ a b, Leads E a b → b ∈ pre → a ∈ pre) {k : Nat} (hk : k < n) (hno : k ∉ pre) :
    mayTo (fun x => pre.contains x) M k n = true ↔ Avail n E pre k := by
  simp only [mayTo, List.all_eq_true, List.mem_range, Bool.or_eq_true, Bool.not_eq_true', List.contains_eq_mem, decide_eq_true_eq]
  constructor
  · intro h
    refine ⟨hk, hno, fun e he hek => ?_⟩
    rcases h e.1 (hE e he).1 with h1 | h1
    · exact h1
    · rw [(hM e.1 k).2 (by rw [← hek]; exact .single he)] at h1
      cases h1
  · intro h x hx
    by_cases hm : M x k = true
    · left
      have hl := (hM x k).1 hm
      cases hl with
      | single he => exact h.2.2 _ he rfl
      | tail h1 he => exact hcl _ _ h1 (h.2.2 _ he rfl)
    · right; simpa using hm
theorem RunSpec.closed {n : Nat} {E : List (Nat × Nat)} {ord : List Nat} {lv : List Int} (h : RunSpec n E ord lv) (p a b : Nat) (hl : Leads E a b) (hb : b ∈ ord.take p) : a ∈ ord.take p := by
  obtain ⟨q, hq⟩ := List.mem_iff_getElem?.1 hb
  rw [List.getElem?_take] at hq
  split at hq
  · obtain ⟨q2, hq2, ha⟩ := h.ahead hl q hq
    exact List.mem_iff_getElem?.2 ⟨q2, by rw [List.getElem?_take, if_pos (by omega)]; exact ha⟩
  · cases hq
theorem RunSpec.came {n : Nat} {E : List (Nat × Nat)} {ord : List Nat} {lv : List Int} (h : RunSpec n E ord lv) {p i : Nat} (hi : ord[p]? = some i) : i ∉ ord.take p := (h.pre p i hi).1.2.1
theorem RunSpec.may {n : Nat} {E : List (Nat × Nat)} {ord : List Nat} {lv : List Int} (h : RunSpec n E ord lv) (hE : ∀ e ∈ E, e.1 < n ∧ e.2 < n) {M : Mx} (hM : ∀ a b, M a b = true ↔ Leads E a b) {p i : Nat} (hi : ord[p]? = some i) {k : Nat} (hk : k ≤ i) (hno : k ∉ ord.take p) :
    mayTo (fun x => (ord.take p).contains x) M k n = decide (k = i) := by
  have hl := h.pre p i hi
  have hin := hl.1.1
  have hs := mayTo_spec hE hM (h.closed p) (show k < n by omega) hno
  by_cases e : k = i
  · subst e
    simp only [decide_true]
    exact hs.2 hl.1
  · rw [decide_eq_false e]
    apply Bool.eq_false_iff.2
    intro hm
    have := hl.2 k (hs.1 hm)
    omega

/-! ### the walk -/
def RelR (n : Nat) (M : Mx) (v u : Value) : Prop := ∃ i : Nat, u = .int .i64 i ∧ i ≤ n ∧ v = .bool (ringTo M i)
def cameB (n p : Nat) (ord : List Nat) : List Value := bools n fun x => (ord.take p).contains x
theorem cameB_set {n p i : Nat} {ord : List Nat} (hi : ord[p]? = some i) (hin : i < n) : (cameB n p ord).set i (.bool true) = cameB n (p + 1) ord := by
  unfold cameB
  rw [bools_set hin]
  congr 1
  funext x
  have hp := (List.getElem?_eq_some_iff.1 hi)
  obtain ⟨hp, rfl⟩ := hp
  rw [List.take_succ_eq_append_getElem hp]
  generalize ord.take p = pre
  generalize ord[p] = y
  unfold see
  by_cases e : x = y
  · rw [if_pos e]; subst e; simp
  · rw [if_neg e]; simp [e]
def RelP (w : World) (cb n : Nat) (ord : List Nat) (vo vm : Value) (vs : Nat → Value) (M : Mx) (u : Value) (wr : World) : Prop :=
  ∃ p : Nat, u = .int .i64 p ∧ p ≤ n ∧ St w No wr (Row 4 1 (.slice (some ⟨cb, 0, none⟩) n n) n (cameB n p ord) :: Row 3 1 vo n (ints (nats ord)) :: matL vm n vs M [])
def RelK (i : Nat) (u : Value) : Prop := ∃ k : Nat, u = .int .i64 k ∧ k ≤ i
def RelJ (n k p : Nat) (ord : List Nat) (M : Mx) (v u : Value) : Prop := ∃ j : Nat, u = .int .i64 j ∧ j ≤ n ∧ v = .bool (mayTo (fun x => (ord.take p).contains x) M k j)

set_option maxHeartbeats 2000000 in
set_option maxRecDepth 100000 in
theorem lawOrder_ok (n : Int) (len cap : Nat) (A : Option Addr) (ps : List (Int × Int)) (w : World) (hl : ps.length = len) (hr : Rd w A (pcells ps)) :
    Calls Try.prog 3 #[.int .i64 n, .slice A len cap] w (LawPost w) := by
  have HR := Lib.hid hr
  have HL := Lib.hid hl
  clear hr hl
  by_cases hin : (n ≤ 40 ∨ 256 < n) ∧ len ≤ 200
  rotate_left
  · have hin : (40 < n ∧ n ≤ 256) ∨ (n ≤ 40 ∧ 200 < len) ∨ (40 < n ∧ 256 < n ∧ 200 < len) := by omega
    go_enter Try.func3, Try.ntmps3
    go_wp2_with fail
    refine (fixed_ok _).mono ?_
    rintro e w1 ⟨rfl, h1⟩
    rcases hin with ⟨h, h'⟩ | ⟨h, h'⟩ | ⟨h, h', h''⟩
    all_goals
      go_wp2_with fail
      go_ret
      exact ⟨rfl, h1⟩
  · obtain ⟨hn, h200⟩ := hin
    by_cases hbad : n < 0 ∨ 256 < n
    · have hbad' : (n ≤ 40 ∧ n < 0) ∨ (40 < n ∧ 0 ≤ n ∧ 256 < n) := by omega
      go_enter Try.func3, Try.ntmps3
      go_wp2_with fail
      refine (fixed_ok _).mono ?_
      rintro e w1 ⟨rfl, h1⟩
      rcases hbad' with ⟨h, h'⟩ | ⟨h, h', h''⟩
      all_goals
        go_wp2_with fail
        refine (order_no n len cap A w1 hbad).mono ?_
        rintro e w2 ⟨rfl, rfl⟩
        go_wp2_with fail
        refine (left_no n len cap A w1 hbad).mono ?_
        rintro e w2 ⟨rfl, rfl⟩
        go_wp2_with fail
        refine (reach_no n 0 len cap A w1 (by omega)).mono ?_
        rintro e w2 ⟨rfl, rfl⟩
        go_wp2_with fail
        go_ret
        exact ⟨rfl, h1⟩
    · obtain ⟨n, rfl⟩ := Int.eq_ofNat_of_zero_le (show 0 ≤ n by omega)
      have hn40 : n ≤ 40 := by omega
      have h40 : (n : Int) ≤ 40 := by omega
      have h256 : n ≤ 256 := by omega
      have hmk := run_make_row' (P := Try.prog) 31 4 (.bool false) 1 Try.underlying31 info4 rfl .i64 .i64 n (by omega) (by omega)
      clear hn hbad
      go_enter Try.func3, Try.ntmps3
      go_wp2_with fail
      refine (fixed_ok _).mono ?_
      rintro e w1 ⟨rfl, h1⟩
      go_wp2_with fail
      refine (order_ok n len cap A ps w1 h256 HL.out (by omega) (HR.out.later h1)).mono ?_
      rintro e w2 ⟨ord, lv, hrun, ⟨hlt, rfl, h2⟩ | ⟨hge, vo, rfl, h2⟩⟩
      · have h2 := h1.frameNil _ _ h2
        clear h1
        go_wp2_with fail
        refine (lreach_ok n len cap A ps w2 hn40 HL.out (by omega) (HR.out.later h2)).mono ?_
        rintro e w3 ⟨vm, vs, M, rfl, hM, h3⟩
        have h3 : St w No w3 (matL vm n vs M []) := h2.frameNil _ _ h3
        have hring := (hrun.ring (fun e he => edges_lt he) hM).2 hlt
        obtain ⟨am, cm, rfl⟩ := h3.rowForm
        clear h2
        go_wp2_with fail
        go_loop [8, 62] (RelR n M) (fun _ u => n - (intOf u).toNat)
        case atStart => exact ⟨0, rfl, by omega, rfl⟩
        case round =>
          obtain ⟨i, rfl, hi, rfl⟩ := hrel
          by_cases hlt2 : i < n
          · have hii : (i : Int) < (n : Int) := by omega
            obtain ⟨mb, mo, mc, hmv, -, -, -, -, -, lm⟩ := h3.rowOpen (by omega)
            cases hmv
            obtain ⟨ri, oi, ci, hvi, hci, -⟩ := mat_open h3 i hlt2
            have d1 : w3.cell? ⟨mb, mo + i, none⟩ = some (.slice (some ⟨ri, oi, none⟩) n ci) := by
              rw [← hvi]; exact row_cell h3 i _ (by omega) (by simp [hlt2])
            have d2 := hci i hlt2
            have HRT := Lib.hid (ringTo_succ M i)
            clear hci hvi
            generalize M i i = y at *
            generalize ringTo M i = x at *
            cases x
            · go_wp2_with fail
              go_round
              case rel => exact ⟨i + 1, by go_num, by omega, by rw [HRT.out]; rfl⟩
              case measure => simp [intOf]; omega
            · go_wp2_with fail
              go_round
              case rel => exact ⟨i + 1, by go_num, by omega, by rw [HRT.out]; rfl⟩
              case measure => simp [intOf]; omega
          · have hin : i = n := by omega
            subst hin
            rw [hring]
            go_wp2_with fail
            go_ret
            exact ⟨rfl, St.right (L1 := [_, _]) (L2 := []) h3⟩
      · have hlen : ord.length = n := by have := hrun.len_le; omega
        rw [hlen] at h2
        have h2 := h1.frameNil _ _ h2
        clear h1
        go_wp2_with fail
        refine (lreach_ok n len cap A ps w2 hn40 HL.out (by omega) (HR.out.later h2)).mono ?_
        rintro e w3 ⟨vm, vs, M, rfl, hM, h3⟩
        have h3 : St w No w3 (matL vm n vs M [Row 3 1 vo n (ints (nats ord))]) := h2.frameNil _ _ h3
        have hring : ringTo M n = false := by
          apply Bool.eq_false_iff.2
          intro h
          have := (hrun.ring (fun e he => edges_lt he) hM).1 h
          omega
        obtain ⟨am, cm, rfl⟩ := h3.rowForm
        obtain ⟨ao, co, rfl⟩ := h3.f2.rowForm
        clear h2
        go_wp2_with fail
        go_loop [8, 62] (RelR n M) (fun _ u => n - (intOf u).toNat)
        case atStart => exact ⟨0, rfl, by omega, rfl⟩
        case round =>
          obtain ⟨i, rfl, hi, rfl⟩ := hrel
          by_cases hlt2 : i < n
          · have hii : (i : Int) < (n : Int) := by omega
            obtain ⟨mb, mo, mc, hmv, -, -, -, -, -, lm⟩ := h3.rowOpen (by omega)
            cases hmv
            obtain ⟨ri, oi, ci, hvi, hci, -⟩ := mat_open h3 i hlt2
            have d1 : w3.cell? ⟨mb, mo + i, none⟩ = some (.slice (some ⟨ri, oi, none⟩) n ci) := by
              rw [← hvi]; exact row_cell h3 i _ (by omega) (by simp [hlt2])
            have d2 := hci i hlt2
            have HRT := Lib.hid (ringTo_succ M i)
            clear hci hvi
            generalize M i i = y at *
            generalize ringTo M i = x at *
            cases x
            · go_wp2_with fail
              go_round
              case rel => exact ⟨i + 1, by go_num, by omega, by rw [HRT.out]; rfl⟩
              case measure => simp [intOf]; omega
            · go_wp2_with fail
              go_round
              case rel => exact ⟨i + 1, by go_num, by omega, by rw [HRT.out]; rfl⟩
              case measure => simp [intOf]; omega
          · have hin : n = i := by omega
            subst hin
            rw [hring]
            have HM := Lib.hid hM
            clear hM hring hlt2 hi
            go_wp2_with fail
            have h4 := (made_false h3 n h256).f3
            generalize hcb : w3.heap.size = cb at *
            generalize w3.alloc (.cells (madeCells #[.bool false] n) 4) = w4 at *
            clear hcb hmk
            have h4 : St w No w4 (Row 4 1 (.slice (some ⟨cb, 0, none⟩) n n) n (cameB n 0 ord) :: Row 3 1 (.slice ao n co) n (ints (nats ord)) :: matL (.slice am n cm) n vs M []) := h4.f1
            go_loopw [96] (RelP w cb n ord (.slice ao n co) (.slice am n cm) vs M) (fun u _ => n - (intOf u).toNat)
            case atStart => exact ⟨0, rfl, by omega, h4⟩
            case round =>
              clear h4
              obtain ⟨p, rfl, hp, h⟩ := hrel
              by_cases hlt2 : p < n
              · obtain ⟨x, hx⟩ : ∃ x, ord[p]? = some x := ⟨_, List.getElem?_eq_getElem (by omega)⟩
                have hxn : x < n := hrun.lt x (List.mem_of_getElem? hx)
                have hxi : (x : Int) < (n : Int) := by omega
                have hpi : (p : Int) < (n : Int) := by omega
                obtain ⟨ob, oo, oc, hov, hoc, -⟩ := h.f1.rowOpen (by omega)
                cases hov
                have d1 : wr.cell? ⟨ob, oo + p, none⟩ = some (.int .i64 (x : Int)) := hoc p _ (by simp [ints, nats, hx])
                have hc : ∀ k, k < n → wr.cell? ⟨cb, k, none⟩ = some (.bool ((ord.take p).contains k)) := by
                  intro k hk
                  have := row_cell h k _ (by omega) (bools_get (s := fun x => (ord.take p).contains x) hk)
                  rwa [Nat.zero_add] at this
                have lc := row_lt h (by omega)
                have hM4 := h.f3.f3
                have hM4 : St w No wr (matL (.slice am n cm) n vs M [_, _]) := hM4
                obtain ⟨mb, mo, mc, hmv, -, -, -, -, -, lm⟩ := hM4.rowOpen (by omega)
                cases hmv
                have HC := Lib.hid hc
                have HCame := Lib.hid (hrun.came hx)
                have HMay := Lib.hid (fun k => hrun.may (fun e he => edges_lt he) HM.out hx (k := k))
                clear hoc hc
                go_wp2_with fail
                go_loop [101] (RelK x) (fun u => n - (intOf u).toNat)
                case atStart => exact ⟨0, rfl, by omega⟩
                case round =>
                  obtain ⟨k, rfl, hk⟩ := hrel
                  have hkn : k < n := by omega
                  have hki : (k : Int) < (n : Int) := by omega
                  have d2 := HC.out k hkn
                  by_cases hkc : k ∈ ord.take p
                  · have hkx : k ≠ x := by rintro rfl; exact HCame.out hkc
                    rw [show (ord.take p).contains k = true by simpa using hkc] at d2
                    go_wp2_with fail
                    go_round
                    case rel => exact ⟨k + 1, by go_num, by omega⟩
                    case measure => simp [intOf]; omega
                  · rw [show (ord.take p).contains k = false by simpa using hkc] at d2
                    have HKC := Lib.hid hkc
                    clear hkc
                    go_wp2_with fail
                    go_loop [14, 109] (RelJ n k p ord M) (fun _ u => n - (intOf u).toNat)
                    case atStart => exact ⟨0, rfl, by omega, rfl⟩
                    case round =>
                      obtain ⟨j, rfl, hj, rfl⟩ := hrel
                      by_cases hlt3 : j < n
                      · have hji : (j : Int) < (n : Int) := by omega
                        have d3 := HC.out j hlt3
                        obtain ⟨rj, oj, cj, hvj, hcj, -⟩ := mat_open hM4 j hlt3
                        have d4 : wr.cell? ⟨mb, mo + j, none⟩ = some (.slice (some ⟨rj, oj, none⟩) n cj) := by
                          rw [← hvj]; exact row_cell hM4 j _ (by omega) (by simp [hlt3])
                        have d5 := hcj k hkn
                        have HS := Lib.hid (mayTo_succ (fun x => (ord.take p).contains x) M k j)
                        clear hcj hvj
                        generalize mayTo (fun x => (ord.take p).contains x) M k j = m at *
                        generalize (ord.take p).contains j = y at *
                        generalize M j k = z at *
                        cases m
                        · go_wp2_with fail
                          go_round
                          case rel => exact ⟨j + 1, by go_num, by omega, by rw [HS.out]; rfl⟩
                          case measure => simp [intOf]; omega
                        · cases y
                          · go_wp2_with fail
                            go_round
                            case rel => exact ⟨j + 1, by go_num, by omega, by rw [HS.out]; rfl⟩
                            case measure => simp [intOf]; omega
                          · go_wp2_with fail
                            go_round
                            case rel => exact ⟨j + 1, by go_num, by omega, by rw [HS.out]; rfl⟩
                            case measure => simp [intOf]; omega
                      · have hjn : n = j := by omega
                        subst hjn
                        have hmay := HMay.out k hk HKC.out
                        rw [hmay]
                        by_cases hkx : k = x
                        · subst hkx
                          have d6 := row_free h k (by omega)
                          have hset := h.rowSet k (.bool true) (by omega)
                          rw [Nat.zero_add, cameB_set hx hxn] at hset
                          simp only [decide_true]
                          clear hmay
                          go_wp2_with fail
                          go_roundw
                          case rel => exact ⟨p + 1, by go_num, by omega, hset⟩
                          case measure => simp [intOf]; omega
                        · rw [decide_eq_false hkx]
                          clear hmay
                          go_wp2_with fail
                          go_round
                          case rel => exact ⟨k + 1, by go_num, by omega⟩
                          case measure => simp [intOf]; omega
              · have hpi : p = n := by omega
                subst hpi
                go_wp2_with fail
                go_ret
                exact ⟨rfl, St.right (L1 := [_, _, _, _]) (L2 := []) h⟩
end Go.Proofs.Ytofoibckfkbdoaa
