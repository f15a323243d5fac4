/- walk: TopoReach -/
import Derived.Test.YtofoibckfkbdoaaPlain
import Derived.Test.YtofoibckfkbdoaaReach
set_option linter.unusedSimpArgs false
set_option linter.unusedVariables false
namespace Go.Proofs.Ytofoibckfkbdoaa
open Go.RowKit Go.HG

def LawPost (w : World) (e : Ending) (w' : World) : Prop := e = .returned (.bool true) ∧ St w No w' []
def GotPost (w : World) (n : Nat) (f : Int) (E : List (Nat × Nat)) (e : Ending) (w' : World) : Prop :=
  ∃ (s : Nat → Bool) (vo : Value), (∀ k, k < n → (s k = true ↔ (0 ≤ f ∧ f < n) ∧ Leads E f.toNat k)) ∧ e = .returned vo ∧ St w No w' [Row 3 1 vo (seenTo n s).length (ints (nats (seenTo n s)))]
theorem seenTo_none (n : Nat) : seenTo n (fun _ => false) = [] := by simp [seenTo]
theorem reach_any (n len cap : Nat) (f : Int) (A : Option Addr) (ps : List (Int × Int)) (w : World) (hn : n ≤ 256) (hl : ps.length = len) (hlen : len ≤ 300) (hr : Rd w A (pcells ps)) :
    Calls Try.prog 10 #[.int .i64 n, .slice A len cap, .int .i64 f] w (GotPost w n f (edges n ps)) := by
  by_cases h : 0 ≤ f ∧ f < n
  · obtain ⟨g, rfl⟩ := Int.eq_ofNat_of_zero_le h.1
    refine (reach_ok n g len cap A ps w hn (by omega) hl hlen hr).mono ?_
    rintro e w' ⟨s, vo, hs, he, h'⟩
    exact ⟨s, vo, fun k _ => by rw [hs k]; exact ⟨fun x => ⟨h, x⟩, fun x => x.2⟩, he, h'⟩
  · refine (reach_no n f len cap A w (by omega)).mono ?_
    rintro e w' ⟨he, rfl⟩
    exact ⟨fun _ => false, _, fun k _ => ⟨fun x => (by cases x), fun x => absurd x.1 h⟩, he, by rw [seenTo_none]; exact (St.refl w No).addNil 3 1⟩

def RelO (n : Nat) (s : Nat → Bool) (ord : List Nat) (a b u : Value) : Prop :=
  ∃ k : Nat, u = .int .i64 k ∧ k ≤ n ∧ a = .int .i64 (seenTo k s).length ∧ b = .int .i64 (leftTo k ord).length
def stuckTo (M : Mx) (k i : Nat) : Bool := M k k || (List.range i).any fun j => M j j && M j k
theorem stuckTo_succ (M : Mx) (k i : Nat) : stuckTo M k (i + 1) = (stuckTo M k i || (M i i && M i k)) := by
  simp [stuckTo, List.range_succ, List.any_append, Bool.or_assoc]
def RelI (n k : Nat) (M : Mx) (v u : Value) : Prop := ∃ i : Nat, u = .int .i64 i ∧ i ≤ n ∧ v = .bool (stuckTo M k i)

set_option maxHeartbeats 2000000 in
set_option maxRecDepth 100000 in
theorem lawReach_ok (n f : Int) (len cap : Nat) (A : Option Addr) (ps : List (Int × Int)) (w : World) (hl : ps.length = len) (hr : Rd w A (pcells ps)) :
    Calls Try.prog 4 #[.int .i64 n, .slice A len cap, .int .i64 f] w (LawPost w) := by
  by_cases hin : 0 ≤ n ∧ n ≤ 40 ∧ len ≤ 200
  rotate_left
  · have HR := Lib.hid hr
    have HL := Lib.hid hl
    clear hr hl
    have hin : n > 40 ∨ (n ≤ 40 ∧ n < 0) ∨ (n ≤ 40 ∧ 0 ≤ n ∧ len > 200) := by omega
    go_enter Try.func4, Try.ntmps4
    go_wp2_with fail
    refine (fixed_ok _).mono ?_
    rintro e w1 ⟨rfl, h1⟩
    rcases hin with h | ⟨h, h'⟩ | ⟨h, h', h''⟩
    all_goals
      go_wp2_with fail
      go_ret
      exact ⟨rfl, h1⟩
  · obtain ⟨h0, h40, h200⟩ := hin
    obtain ⟨n, rfl⟩ := Int.eq_ofNat_of_zero_le h0
    have h256 : n ≤ 256 := by omega
    have hn40 : n ≤ 40 := by omega
    have HR := Lib.hid hr
    have HL := Lib.hid hl
    clear hr hl
    go_enter Try.func4, Try.ntmps4
    go_wp2_with fail
    refine (fixed_ok _).mono ?_
    rintro e w1 ⟨rfl, h1⟩
    go_wp2_with fail
    refine (lreach_ok n len cap A ps w1 hn40 HL.out (by omega) (HR.out.later h1)).mono ?_
    rintro e w2 ⟨vm, vs, M, rfl, hM, h2⟩
    have h2 := h1.frameNil _ _ h2
    clear h1
    go_wp2_with fail
    refine (reach_any n len cap f A ps w2 h256 HL.out (by omega) (HR.out.later h2)).mono ?_
    rintro e w3 ⟨s, vg, hs, rfl, h3⟩
    have h3 := h2.frameNil _ _ h3
    clear h2
    go_wp2_with fail
    refine (left_ok n len cap A ps w3 h256 HL.out (by omega) (HR.out.later h3)).mono ?_
    rintro e w4 ⟨ord, lv, vl, hrun, rfl, h4⟩
    have h4 : St w No w4 (Row 3 1 vl (leftTo n ord).length (ints (nats (leftTo n ord))) :: Row 3 1 vg (seenTo n s).length (ints (nats (seenTo n s))) :: matL vm n vs M []) := h3.frameNil _ _ h4
    have hM4 : St w No w4 (matL vm n vs M [_, _]) := h4.f3.f3
    clear h3
    obtain ⟨am, cm, rfl⟩ := hM4.rowForm
    obtain ⟨al, cl, rfl⟩ := h4.rowForm
    obtain ⟨ag, cg, rfl⟩ := h4.f1.rowForm
    have hst : ∀ k, k < n → (stuckTo M k n = true ↔ k ∉ ord) := by
      intro k hk
      rw [hrun.stuck (fun e he => edges_lt he) hk]
      simp only [stuckTo, Bool.or_eq_true, List.any_eq_true, List.mem_range, Bool.and_eq_true, hM]
    have HST := Lib.hid hst
    have HS := Lib.hid hs
    have HMM := Lib.hid hM
    have ltl := leftTo_len n ord
    have lts : (seenTo n s).length ≤ n := by unfold seenTo; have := List.length_filter_le (fun k => s k) (List.range n); rwa [List.length_range] at this
    clear hst hs hM
    go_wp2_with fail
    go_loop [10, 11, 39] (RelO n s ord) (fun _ _ u => n - (intOf u).toNat)
    case atStart => exact ⟨0, rfl, by omega, rfl, rfl⟩
    case round =>
      obtain ⟨k, rfl, hk, rfl, rfl⟩ := hrel
      have ha := filter_le (p := fun x => s x) hk
      have hb := filter_le (p := fun x => !ord.contains x) hk
      have ha : (seenTo k s).length ≤ (seenTo n s).length := ha
      have hb : (leftTo k ord).length ≤ (leftTo n ord).length := hb
      by_cases hlt : k < n
      · have hki : (k : Int) < (n : Int) := by omega
        obtain ⟨mb, mo, mc, hmv, -, -, -, -, -, lm⟩ := hM4.rowOpen (by omega)
        cases hmv
        obtain ⟨rk, ok', ck, hvk, hck, -⟩ := mat_open hM4 k hlt
        have e1 : w4.cell? ⟨mb, mo + k, none⟩ = some (.slice (some ⟨rk, ok', none⟩) n ck) := by
          rw [← hvk]; exact row_cell hM4 k _ (by omega) (by simp [hlt])
        have e2 := hck k hlt
        have HC := Lib.hid hck
        clear hck
        go_upto_region 11 with fail
        go_cut [57] (fun s57 wx => s57 = .bool (s k) ∧ wx = w4)
        case first =>
          by_cases hf : 0 ≤ f ∧ f < n
          · obtain ⟨f0, f1⟩ := hf
            obtain ⟨f, rfl⟩ := Int.eq_ofNat_of_zero_le f0
            obtain ⟨rf, of', cf, hvf, hcf, -⟩ := mat_open hM4 f (by omega)
            have hfn : f < n := by omega
            have d1 : w4.cell? ⟨mb, mo + f, none⟩ = some (.slice (some ⟨rf, of', none⟩) n cf) := by
              rw [← hvf]; exact row_cell hM4 f _ (by omega) (by simp [hfn])
            have d2 := hcf k hlt
            have hsk : s k = M f k := by
              rw [Bool.eq_iff_iff, HS.out k hlt, HMM.out]
              exact ⟨fun x => x.2, fun x => ⟨⟨f0, f1⟩, x⟩⟩
            have HSK := Lib.hid hsk
            clear hcf hvf hsk
            go_wp2_with fail
            go_meet
            exact ⟨by rw [HSK.out], rfl⟩
          · have hsk : s k = false := by
              have := HS.out k hlt
              cases h : s k
              · rfl
              · exact absurd (this.1 h).1 hf
            have HSK := Lib.hid hsk
            clear hsk
            have hf : f < 0 ∨ (0 ≤ f ∧ (n : Int) ≤ f) := by omega
            rcases hf with hf | ⟨hf, hf'⟩
            all_goals
              go_wp2_with fail
              go_meet
              exact ⟨by rw [HSK.out], rfl⟩
        case rest =>
          obtain ⟨rfl, rfl⟩ := hcut
          go_upto_if 57 with fail
          go_cut [10] (fun s10 wx => s10 = .int .i64 (seenTo (k + 1) s).length ∧ wx = wc)
          case first =>
            have HT := Lib.hid (seenTo_succ k s)
            have HG := Lib.hid (seenTo_get (s := s) hlt)
            cases hsk : s k
            · rw [hsk] at HT
              go_wp2_with fail
              go_meet
              exact ⟨by rw [HT.out]; rfl, rfl⟩
            · have hg := HG.out hsk
              rw [hsk] at HT
              have hlt2 : (seenTo k s).length < (seenTo n s).length := by
                rcases Nat.lt_or_ge (seenTo k s).length (seenTo n s).length with h | h
                · exact h
                · rw [List.getElem?_eq_none h] at hg; cases hg
              obtain ⟨gb, go, gc, hgv, hgc, -⟩ := h4.f1.rowOpen (by omega)
              cases hgv
              have d1 : wc.cell? ⟨gb, go + (seenTo k s).length, none⟩ = some (.int .i64 (k : Int)) := hgc _ _ (by simp [ints, nats, hg])
              clear hgc hg HG hsk
              have HT2 := Lib.hid (show (seenTo (k + 1) s).length = (seenTo k s).length + 1 by rw [HT.out]; simp)
              clear HT
              have hli : ((seenTo k s).length : Int) < ((seenTo n s).length : Int) := by omega
              go_wp2_with fail
              go_meet
              exact ⟨by rw [HT2.out]; go_num, rfl⟩
          case rest =>
            obtain ⟨rfl, rfl⟩ := hcut
            go_wp2_with fail
            go_loop [13, 80] (RelI n k M) (fun _ u => n - (intOf u).toNat)
            case atStart => exact ⟨0, rfl, by omega, by simp [stuckTo]⟩
            case round =>
              obtain ⟨i, rfl, hi, rfl⟩ := hrel
              by_cases hlt2 : i < n
              · have hii : (i : Int) < (n : Int) := by omega
                obtain ⟨ri, oi, ci, hvi, hci, -⟩ := mat_open hM4 i hlt2
                have d1 : wc.cell? ⟨mb, mo + i, none⟩ = some (.slice (some ⟨ri, oi, none⟩) n ci) := by
                  rw [← hvi]; exact row_cell hM4 i _ (by omega) (by simp [hlt2])
                have d2 := hci i hlt2
                have d3 := hci k hlt
                have HSU := Lib.hid (stuckTo_succ M k i)
                clear hci hvi
                generalize stuckTo M k i = x at *
                generalize M i i = y at *
                generalize M i k = z at *
                cases x
                · cases y
                  · go_wp2_with fail
                    go_round
                    case rel => exact ⟨i + 1, by go_num, by omega, by rw [HSU.out]; rfl⟩
                    case measure => simp [intOf]; omega
                  · go_wp2_with fail
                    go_round
                    case rel => exact ⟨i + 1, by go_num, by omega, by rw [HSU.out]; simp⟩
                    case measure => simp [intOf]; omega
                · go_wp2_with fail
                  go_round
                  case rel => exact ⟨i + 1, by go_num, by omega, by rw [HSU.out]; rfl⟩
                  case measure => simp [intOf]; omega
              · have hin : i = n := by omega
                subst hin
                have hst := HST.out k hlt
                have HT := Lib.hid (leftTo_succ k ord)
                have HG := Lib.hid (leftTo_get (ord := ord) hlt)
                cases hsk : stuckTo M k i
                · rw [hsk] at hst
                  have hm : k ∈ ord := by
                    apply Classical.byContradiction; intro h; cases hst.2 h
                  clear hst
                  go_wp2_with fail
                  go_round
                  case rel => exact ⟨k + 1, by go_num, by omega, rfl, by rw [HT.out, if_pos hm]⟩
                  case measure => simp [intOf]; omega
                · have hm : k ∉ ord := hst.1 hsk
                  have hg := HG.out hm
                  have hlt3 : (leftTo k ord).length < (leftTo i ord).length := by
                    rcases Nat.lt_or_ge (leftTo k ord).length (leftTo i ord).length with h | h
                    · exact h
                    · rw [List.getElem?_eq_none h] at hg; cases hg
                  obtain ⟨gb, go, gc, hgv, hgc, -⟩ := h4.rowOpen (by omega)
                  cases hgv
                  have d1 : wc.cell? ⟨gb, go + (leftTo k ord).length, none⟩ = some (.int .i64 (k : Int)) := hgc _ _ (by simp [ints, nats, hg])
                  have HLL : leftTo (k + 1) ord = leftTo k ord ++ [k] := by rw [HT.out, if_neg hm]
                  have HLL := Lib.hid HLL
                  clear hgc hg HG hsk hst HT hm
                  have hli : ((leftTo k ord).length : Int) < ((leftTo i ord).length : Int) := by omega
                  go_wp2_with fail
                  go_round
                  case rel => exact ⟨k + 1, by go_num, by omega, rfl, by rw [HLL.out, List.length_append]; go_num⟩
                  case measure => simp [intOf]; omega
      · have hkn : k = n := by omega
        subst hkn
        go_wp2_with fail
        go_ret
        exact ⟨rfl, St.right (L1 := [_, _, _, _]) (L2 := []) h4⟩
end Go.Proofs.Ytofoibckfkbdoaa
