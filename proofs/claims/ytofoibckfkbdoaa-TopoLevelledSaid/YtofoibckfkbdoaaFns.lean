/- walks: Order, Levels, Left -/
import Derived.Test.YtofoibckfkbdoaaRun
set_option linter.unusedSimpArgs false
set_option linter.unusedVariables false
namespace Go.Proofs.Ytofoibckfkbdoaa
open Go.RowKit Go.HG

theorem RunSpec.ord_eq {n : Nat} {E : List (Nat × Nat)} {o1 o2 : List Nat} {l1 l2 : List Int} (h1 : RunSpec n E o1 l1) (h2 : RunSpec n E o2 l2) : o1 = o2 := by
  have key : ∀ p, o1.take p = o2.take p := by
    intro p
    induction p with
    | zero => simp
    | succ p ih =>
      by_cases a1 : p < o1.length
      · have q1 := h1.pre p o1[p] (List.getElem?_eq_getElem a1)
        by_cases a2 : p < o2.length
        · have q2 := h2.pre p o2[p] (List.getElem?_eq_getElem a2)
          rw [List.take_succ_eq_append_getElem a1, List.take_succ_eq_append_getElem a2, ih]
          rw [ih] at q1
          have e1 := q1.2 _ q2.1
          have e2 := q2.2 _ q1.1
          rw [Nat.le_antisymm e1 e2]
        · rw [ih, List.take_of_length_le (by omega)] at q1
          exact absurd q1.1 (h2.last _)
      · by_cases a2 : p < o2.length
        · have q2 := h2.pre p o2[p] (List.getElem?_eq_getElem a2)
          rw [← ih, List.take_of_length_le (by omega)] at q2
          exact absurd q2.1 (h1.last _)
        · rw [List.take_of_length_le (by omega), List.take_of_length_le (by omega)]
          rw [List.take_of_length_le (by omega), List.take_of_length_le (by omega)] at ih
          exact ih
  have := key (o1.length + o2.length)
  rwa [List.take_of_length_le (by omega), List.take_of_length_le (by omega)] at this

def leftOf (n : Nat) (ord : List Nat) : List Nat := (List.range n).filter fun i => !ord.contains i
theorem leftOf_len (n : Nat) (ord : List Nat) : (leftOf n ord).length ≤ n := by
  unfold leftOf
  have := List.length_filter_le (fun i => !ord.contains i) (List.range n)
  rwa [List.length_range] at this
def leftTo (k : Nat) (ord : List Nat) : List Nat := (List.range k).filter fun i => !ord.contains i
theorem leftTo_succ (k : Nat) (ord : List Nat) : leftTo (k + 1) ord = if k ∈ ord then leftTo k ord else leftTo k ord ++ [k] := by
  unfold leftTo
  rw [List.range_succ, List.filter_append]
  by_cases h : k ∈ ord <;> simp [h]
theorem leftTo_len (k : Nat) (ord : List Nat) : (leftTo k ord).length ≤ k := leftOf_len k ord

theorem nats_has {k : Nat} {l : List Nat} : (k : Int) ∈ nats l ↔ k ∈ l := by
  unfold nats
  rw [List.mem_map]
  exact ⟨fun ⟨a, ha, he⟩ => by rw [← Int.ofNat_inj.1 he]; exact ha, fun h => ⟨k, h, rfl⟩⟩
theorem right_yes (n : Nat) (hn : n ≤ 256) (w : World) : Calls Try.prog 13 #[.int .i64 n] w fun e w' => e = .returned (.bool true) ∧ w = w' := by
  have h1 : (n : Int) ≤ 256 := by omega
  go_enter Try.func13, Try.ntmps13
  go_wp2_with fail
  go_ret
  exact ⟨rfl, rfl⟩
theorem right_no (n : Int) (hn : n < 0 ∨ 256 < n) (w : World) : Calls Try.prog 13 #[.int .i64 n] w fun e w' => e = .returned (.bool false) ∧ w = w' := by
  rcases hn with hn | hn
  · go_enter Try.func13, Try.ntmps13
    go_wp2_with fail
    go_ret
    exact ⟨rfl, rfl⟩
  · have h0 : 0 ≤ n := by omega
    have h1 : decide (n ≤ 256) = false := by simp; omega
    go_enter Try.func13, Try.ntmps13
    go_wp2_with fail
    go_ret
    exact ⟨rfl, rfl⟩

def IndexPost (w0 : World) (K : Nat → Prop) (L : List HP) (xs : List Int) (x : Int) (e : Ending) (w' : World) : Prop :=
  ∃ r : Int, e = .returned (.int .i64 r) ∧ (0 ≤ r ↔ x ∈ xs) ∧ St w0 K w' L
def IndexRel (xs : List Int) (x : Int) (u : Value) : Prop := ∃ k : Nat, u = .int .i64 k ∧ k ≤ xs.length ∧ x ∉ xs.take k

set_option maxHeartbeats 400000 in
theorem index_ok {w0 w : World} {K : Nat → Prop} {F : List HP} {a : Option Addr} {n cap : Nat} {xs : List Int} (x : Int) (h : St w0 K w (Row 3 1 (.slice a n cap) n (ints xs) :: F)) (hn : n ≤ 1000) :
    Calls Try.prog 20 #[.slice a n cap, .int .i64 x] w (IndexPost w0 K (Row 3 1 (.slice a n cap) n (ints xs) :: F) xs x) := by
  have hl : xs.length = n := by have := h.rowLen; simpa [ints] using this
  go_enter Try.func20, Try.ntmps20
  go_wp2_with fail
  go_loop [8] (IndexRel xs x) (fun u => xs.length - (intOf u).toNat)
  case atStart => exact ⟨0, rfl, by omega, by simp⟩
  case round =>
    obtain ⟨k, rfl, hk, hx⟩ := hrel
    subst hl
    by_cases hlt : k < xs.length
    · obtain ⟨g, off, cap', hv, hc, -⟩ := h.rowOpen (by omega)
      cases hv
      obtain ⟨y, hy⟩ : ∃ y, y = xs[k] := ⟨_, rfl⟩
      have c : w.cell? ⟨g, off + k, none⟩ = some (.int .i64 y) := hc k _ (by simp [ints, hlt, hy])
      clear hc
      have ht : xs.take (k + 1) = xs.take k ++ [y] := by rw [List.take_succ_eq_append_getElem hlt, hy]
      have hm : y ∈ xs := by rw [hy]; exact List.getElem_mem hlt
      have HT := Lib.hid ht
      have HX := Lib.hid hx
      clear ht hx hy
      have hki : (k : Int) < (xs.length : Int) := by omega
      by_cases hxy : x = y
      · subst hxy
        go_wp2_with fail
        go_ret
        exact ⟨k, rfl, ⟨fun _ => hm, fun _ => by omega⟩, h⟩
      · have hb : (x == y) = false := by simpa using hxy
        go_wp2_with fail
        go_round
        case rel => exact ⟨k + 1, by go_num, by omega, by rw [HT.out]; simp; exact ⟨HX.out, hxy⟩⟩
        case measure => simp [intOf]; omega
    · go_wp2_with fail
      go_ret
      refine ⟨-1, rfl, ⟨fun h => by omega, fun hm => ?_⟩, h⟩
      rw [List.take_of_length_le (by omega)] at hx
      exact absurd hm hx

def ContainsPost (w0 : World) (K : Nat → Prop) (L : List HP) (b : Bool) (e : Ending) (w' : World) : Prop := e = .returned (.bool b) ∧ St w0 K w' L

theorem contains_ok {w0 w : World} {K : Nat → Prop} {F : List HP} {a : Option Addr} {n cap : Nat} {xs : List Int} (x : Int) (b : Bool) (hb : (x ∈ xs) ↔ b = true) (h : St w0 K w (Row 3 1 (.slice a n cap) n (ints xs) :: F)) (hn : n ≤ 1000) :
    Calls Try.prog 15 #[.slice a n cap, .int .i64 x] w (ContainsPost w0 K (Row 3 1 (.slice a n cap) n (ints xs) :: F) b) := by
  go_enter Try.func15, Try.ntmps15
  go_wp2_with fail
  refine (index_ok x h hn).mono ?_
  rintro e w' ⟨r, rfl, hr, h⟩
  have hd : decide (0 ≤ r) = b := by
    cases b
    · simp only [decide_eq_false_iff_not]; rw [hr, hb]; simp
    · simp only [decide_eq_true_eq]; rw [hr, hb]
  have HD := Lib.hid hd
  clear hd hr hb
  go_wp2_with fail
  go_ret
  exact ⟨congrArg (fun b => Ending.returned (.bool b)) HD.out, h⟩

def OrderPost (w : World) (n : Nat) (E : List (Nat × Nat)) (e : Ending) (w' : World) : Prop :=
  ∃ ord lv, RunSpec n E ord lv ∧ ((ord.length < n ∧ e = .returned (.tuple #[.slice none 0 0, .bool false]) ∧ St w No w' []) ∨
    (n ≤ ord.length ∧ ∃ vo, e = .returned (.tuple #[vo, .bool true]) ∧ St w No w' [Row 3 1 vo ord.length (ints (nats ord))]))

theorem order_ok (n len cap : Nat) (A : Option Addr) (ps : List (Int × Int)) (w : World) (hn : n ≤ 256) (hl : ps.length = len) (hlen : len ≤ 300) (hr : Rd w A (pcells ps)) :
    Calls Try.prog 8 #[.int .i64 n, .slice A len cap] w (OrderPost w n (edges n ps)) := by
  have hRun := Lib.hid (run_walk n len cap A ps w hn hl hlen hr)
  clear hr hl
  go_enter Try.func8, Try.ntmps8
  go_wp2_with fail
  refine (right_yes n hn _).mono ?_
  rintro e w1 ⟨rfl, rfl⟩
  go_wp2_with fail
  refine hRun.out.mono ?_
  rintro e w1 ⟨vo, vl, ord, lv, rfl, hs, h⟩
  obtain ⟨a, c, rfl⟩ := h.rowForm
  by_cases hlt : ord.length < n
  · go_wp2_with fail
    go_ret2
    exact ⟨ord, lv, hs, .inl ⟨hlt, rfl, St.right (L1 := [_, _]) h⟩⟩
  · have hge : n ≤ ord.length := by omega
    go_wp2_with fail
    go_ret2
    exact ⟨ord, lv, hs, .inr ⟨hge, _, rfl, St.left (L1 := [_]) h⟩⟩

theorem order_no (n : Int) (len cap : Nat) (A : Option Addr) (w : World) (hn : n < 0 ∨ 256 < n) :
    Calls Try.prog 8 #[.int .i64 n, .slice A len cap] w fun e w' => e = .returned (.tuple #[.slice none 0 0, .bool false]) ∧ w = w' := by
  go_enter Try.func8, Try.ntmps8
  go_wp2_with fail
  refine (right_no n hn _).mono ?_
  rintro e w1 ⟨rfl, rfl⟩
  go_wp2_with fail
  go_ret2
  exact ⟨rfl, rfl⟩

def LevelsPost (w : World) (n : Nat) (E : List (Nat × Nat)) (e : Ending) (w' : World) : Prop :=
  ∃ ord lv, RunSpec n E ord lv ∧ ((ord.length < n ∧ e = .returned (.tuple #[.slice none 0 0, .bool false]) ∧ St w No w' []) ∨
    (n ≤ ord.length ∧ ∃ vl, e = .returned (.tuple #[vl, .bool true]) ∧ St w No w' [Row 3 1 vl n (ints lv)]))

theorem levels_ok (n len cap : Nat) (A : Option Addr) (ps : List (Int × Int)) (w : World) (hn : n ≤ 256) (hl : ps.length = len) (hlen : len ≤ 300) (hr : Rd w A (pcells ps)) :
    Calls Try.prog 12 #[.int .i64 n, .slice A len cap] w (LevelsPost w n (edges n ps)) := by
  have HR := Lib.hid hr
  have HL := Lib.hid hl
  clear hr hl
  go_enter Try.func12, Try.ntmps12
  go_wp2_with fail
  refine (order_ok n len cap A ps w hn HL.out hlen HR.out).mono ?_
  rintro e w1 ⟨ord, lv, hs, ⟨hlt, rfl, h⟩ | ⟨hge, vo, rfl, h⟩⟩
  · go_wp2_with fail
    go_ret2
    exact ⟨ord, lv, hs, .inl ⟨hlt, rfl, h⟩⟩
  · go_wp2_with fail
    refine (run_walk n len cap A ps w1 hn HL.out hlen (HR.out.later h)).mono ?_
    rintro e w2 ⟨vo2, vl2, ord2, lv2, rfl, hs2, h2⟩
    go_wp2_with fail
    go_ret2
    refine ⟨ord2, lv2, hs2, .inr ⟨by rw [← hs.ord_eq hs2]; exact hge, _, rfl, St.left (L1 := [_]) (h.frameNil w2 _ h2).drop1⟩⟩

def LeftPost (w : World) (n : Nat) (E : List (Nat × Nat)) (e : Ending) (w' : World) : Prop :=
  ∃ ord lv vo, RunSpec n E ord lv ∧ e = .returned vo ∧ St w No w' [Row 3 1 vo (leftTo n ord).length (ints (nats (leftTo n ord)))]
def LeftRel (w : World) (n : Nat) (ord : List Nat) (vo v u : Value) (wr : World) : Prop :=
  ∃ k : Nat, u = .int .i64 k ∧ k ≤ n ∧ St w No wr [Row 3 1 v (leftTo k ord).length (ints (nats (leftTo k ord))), Row 3 1 vo ord.length (ints (nats ord))]

set_option maxHeartbeats 400000 in
theorem left_ok (n len cap : Nat) (A : Option Addr) (ps : List (Int × Int)) (w : World) (hn : n ≤ 256) (hl : ps.length = len) (hlen : len ≤ 300) (hr : Rd w A (pcells ps)) :
    Calls Try.prog 9 #[.int .i64 n, .slice A len cap] w (LeftPost w n (edges n ps)) := by
  have hRun := Lib.hid (run_walk n len cap A ps w hn hl hlen hr)
  clear hr hl
  go_enter Try.func9, Try.ntmps9
  go_wp2_with fail
  refine (right_yes n hn _).mono ?_
  rintro e w1 ⟨rfl, rfl⟩
  go_wp2_with fail
  refine hRun.out.mono ?_
  rintro e w1 ⟨vo, vl, ord, lv, rfl, hs, h⟩
  obtain ⟨a, c, rfl⟩ := h.rowForm
  have hol : ord.length ≤ n := nodup_le hs.nd hs.lt
  go_wp2_with fail
  go_loopw [7, 19] (LeftRel w n ord (.slice a ord.length c)) (fun _ u _ => n - (intOf u).toNat)
  case atStart => exact ⟨0, rfl, by omega, St.left (L1 := [_, _]) (h.addNil 3 1)⟩
  case round =>
    clear h
    obtain ⟨k, rfl, hk, h⟩ := hrel
    have hll := leftTo_len k ord
    by_cases hlt : k < n
    · have HS := Lib.hid (leftTo_succ k ord)
      by_cases hm : k ∈ ord
      · go_wp2_with fail
        refine (contains_ok (k : Int) true (by rw [nats_has]; simp [hm]) h.f1 (by omega)).mono ?_
        rintro e w2 ⟨rfl, h2⟩
        go_wp2_with fail
        go_roundw
        case rel => exact ⟨k + 1, by go_num, by omega, by rw [HS.out, if_pos hm]; exact h2.f1⟩
        case measure => simp [intOf]; omega
      · go_wp2_with fail
        refine (contains_ok (k : Int) false (by rw [nats_has]; simp [hm]) h.f1 (by omega)).mono ?_
        rintro e w2 ⟨rfl, h2⟩
        go_wp2_with (at_builtin; refine stop_at ?_)
        refine go_on ?_
        refine wl_append ((h2.f1.alloc _).f1) Try.underlying24 info3 rfl (by decide) rfl rfl rfl (cell_one_new _ _ _) (by intro u hu; simp at hu; subst hu; rfl) (by unfold maxLen; omega) (by omega) ?_
        intro v' w3 h3 hs3
        go_wp2_with fail
        go_roundw
        case rel =>
          refine ⟨k + 1, by go_num, by omega, ?_⟩
          rw [HS.out, if_neg hm, nats_append, ints_append, List.length_append]
          exact h3.f1.drop1
        case measure => simp [intOf]; omega
    · have hkn : k = n := by omega
      subst hkn
      go_wp2_with fail
      go_ret
      exact ⟨ord, lv, _, hs, rfl, St.left (L1 := [_]) h⟩
theorem left_no (n : Int) (len cap : Nat) (A : Option Addr) (w : World) (hn : n < 0 ∨ 256 < n) :
    Calls Try.prog 9 #[.int .i64 n, .slice A len cap] w fun e w' => e = .returned (.slice none 0 0) ∧ w = w' := by
  go_enter Try.func9, Try.ntmps9
  go_wp2_with fail
  refine (right_no n hn _).mono ?_
  rintro e w1 ⟨rfl, rfl⟩
  go_wp2_with fail
  go_ret
  exact ⟨rfl, rfl⟩
end Go.Proofs.Ytofoibckfkbdoaa
