/- walk: all that can come, in order, and their levels -/
import Derived.Test.YtofoibckfkbdoaaMade
import Derived.Test.YtofoibckfkbdoaaKahn
set_option linter.unusedSimpArgs false
set_option linter.unusedVariables false
namespace Go.Proofs.Ytofoibckfkbdoaa
open Go.RowKit Go.HG

def nats (l : List Nat) : List Int := l.map fun (x : Nat) => (x : Int)
theorem nats_length (l : List Nat) : (nats l).length = l.length := by simp [nats]
theorem nats_cons (a : Nat) (l : List Nat) : nats (a :: l) = (a : Int) :: nats l := rfl
theorem nats_append (l m : List Nat) : nats (l ++ m) = nats l ++ nats m := by simp [nats]
theorem nextOf_outs (E : List (Nat × Nat)) (i : Nat) : nextOf E i = nats (outs E i) := by simp [nextOf, nats, outs]

def sliceLen : Value → Nat | .slice _ n _ => n | _ => 0

def zeros (n : Nat) (E : List (Nat × Nat)) (k : Nat) : List Nat := (List.range k).filter fun j => (aheadOf n E).getD j 0 == 0
theorem zeros_succ (n : Nat) (E : List (Nat × Nat)) (k : Nat) : zeros n E (k + 1) = if (aheadOf n E).getD k 0 = 0 then zeros n E k ++ [k] else zeros n E k := by
  unfold zeros
  rw [List.range_succ, List.filter_append]
  by_cases h : (aheadOf n E).getD k 0 = 0
  · rw [if_pos h]; simp only [List.filter_cons, List.filter_nil, h, beq_self_eq_true, if_true]
  · rw [if_neg h]; simp only [List.filter_cons, List.filter_nil, beq_iff_eq, h, if_false, List.append_nil]
theorem zeros_len (n : Nat) (E : List (Nat × Nat)) (k : Nat) : (zeros n E k).length ≤ k := by
  unfold zeros
  have := List.length_filter_le (fun j => (aheadOf n E).getD j 0 == 0) (List.range k)
  simpa using this

/-- The web laid open, with its two slices' values. -/
abbrev webL (g n : Nat) (next : Nat → List Int) (ahead : List Int) (v1 v2 : Value) (vs : Nat → Value) (F : List HP) : List HP :=
  Pt g (.cells #[v1, v2] 44 (0, 0)) :: Row 24 1 v1 n ((List.range n).map vs) :: Row 3 1 v2 n (ints ahead) :: Fam (rowsOf vs next) (List.range n) :: F

def RelA (w : World) (g gm n : Nat) (E : List (Nat × Nat)) (v1 v2 : Value) (vs : Nat → Value) (u : Value) (wr : World) : Prop :=
  ∃ (k : Nat) (xs : List Int), u = .int .i64 k ∧ k ≤ n ∧ xs.Perm (nats (zeros n E k)) ∧ HeapOK xs xs.length ∧ St w No wr (Wt gm xs :: webL g n (nextOf E) (aheadOf n E) v1 v2 vs [])

def RunPost (w : World) (n : Nat) (E : List (Nat × Nat)) (e : Ending) (w' : World) : Prop :=
  ∃ vo vl ord lv, e = .returned (.tuple #[vo, vl]) ∧ RunSpec n E ord lv ∧ St w No w' [Row 3 1 vo ord.length (ints (nats ord)), Row 3 1 vl n (ints lv)]

def RelB (w : World) (g gm n : Nat) (E : List (Nat × Nat)) (v1 v2 vl : Value) (vs : Nat → Value) (vo : Value) (wr : World) : Prop :=
  ∃ ord ah lv M xs, KInv n E ord ah lv M ∧ xs.Perm (nats M) ∧ HeapOK xs xs.length ∧
    St w No wr (Wt gm xs :: Row 3 1 vo ord.length (ints (nats ord)) :: Row 3 1 vl n (ints lv) :: webL g n (nextOf E) ah v1 v2 vs [])

def RelC (w : World) (g gm n i : Nat) (E : List (Nat × Nat)) (v1 v2 vl vo : Value) (vs : Nat → Value) (ord : List Nat) (u : Value) (wr : World) : Prop :=
  ∃ (j : Nat) (ah lv : List Int) (M : List Nat) (xs : List Int), u = .int .i64 j ∧ j ≤ (outs E i).length ∧ KIn n E ord i j ah lv M ∧ xs.Perm (nats M) ∧ HeapOK xs xs.length ∧
    St w No wr (Wt gm xs :: Row 3 1 vo ord.length (ints (nats ord)) :: Row 3 1 vl n (ints lv) :: webL g n (nextOf E) ah v1 v2 vs [])

theorem made_zero {w w0 : World} {K : Nat → Prop} {L : List HP} (h : St w0 K w L) (n : Nat) (hn : n ≤ 256) :
    St w0 K (w.alloc (.cells (madeCells #[.int .i64 0] n) 3)) (Row 3 1 (.slice (some ⟨w.heap.size, 0, none⟩) n n) n (ints (List.replicate n 0)) :: L) := by
  have h1 := h.madeRow (z := .int .i64 0) (sz := 1) 3 n (by unfold maxLen; omega)
  have e1 : (madeCells (Value.int .i64 0).cells (n * 1)) = madeCells #[.int .i64 0] n := by rw [Nat.mul_one]; rfl
  have e2 : (madeCells #[Value.int .i64 0] n).toList = ints (List.replicate n 0) := by
    apply List.ext_getElem? ; intro i
    by_cases hi : i < n <;> simp [madeCells, hi, Nat.mod_one, ints]
  rw [e1, e2] at h1
  exact h1

theorem nats_mem {m : Int} {M : List Nat} {ys : List Int} (h : (m :: ys).Perm (nats M)) (hle : ∀ y ∈ ys, m ≤ y) : ∃ (mm : Nat) (M' : List Nat), m = mm ∧ ys.Perm (nats M') ∧ (mm :: M').Perm M ∧ ∀ y ∈ M', mm ≤ y := by
  have h1 : m ∈ nats M := h.mem_iff.1 (by simp)
  obtain ⟨mm, hm, rfl⟩ := List.mem_map.1 h1
  have h2 : ((mm : Int) :: nats (M.erase mm)).Perm (nats M) := ((List.perm_cons_erase hm).map fun (x : Nat) => (x : Int)).symm
  have h3 : ys.Perm (nats (M.erase mm)) := (List.perm_cons (mm : Int)).1 (h.trans h2.symm)
  refine ⟨mm, M.erase mm, rfl, h3, (List.perm_cons_erase hm).symm, fun y hy => ?_⟩
  have := hle (y : Int) (h3.mem_iff.2 (List.mem_map.2 ⟨y, hy, rfl⟩))
  omega

set_option maxHeartbeats 1000000 in
set_option maxRecDepth 100000 in
theorem run_walk (n len cap : Nat) (A : Option Addr) (ps : List (Int × Int)) (w : World) (hn : n ≤ 256) (hl : ps.length = len) (hlen : len ≤ 300) (hr : Rd w A (pcells ps)) :
    Calls Try.prog 14 #[.int .i64 n, .slice A len cap] w (RunPost w n (edges n ps)) := by
  have hmk2 := run_make_row' (P := Try.prog) 24 3 (.int .i64 0) 8 Try.underlying24 info3 rfl .i64 .i64 n (by omega) (by omega)
  have hEl : (edges n ps).length ≤ 300 := Nat.le_trans (edges_length _ _) (by omega)
  have hElt : ∀ e ∈ edges n ps, e.1 < n ∧ e.2 < n := fun e he => edges_lt he
  have hMade := made_walk n len cap A ps w hn hl (by omega) hr
  unfold MadePost at hMade
  generalize edges n ps = E at *
  have HM := Lib.hid hMade
  have HElt := Lib.hid hElt
  clear hr hl hMade hElt
  go_enter Try.func14, Try.ntmps14
  go_wp2_with fail
  refine HM.out.mono ?_
  rintro e w1 ⟨g, rfl, h⟩
  clear HM
  obtain ⟨v1, v2, vs, h⟩ := h.webOpen
  have h : St w No w1 (webL g n (nextOf E) (aheadOf n E) v1 v2 vs []) := h
  obtain ⟨a1, k1, rfl⟩ := h.f1.rowForm
  obtain ⟨a2, k2, rfl⟩ := h.f2.rowForm
  have c1 : w1.cell? ⟨g, 1, none⟩ = some (.slice a2 n k2) := h.cellv rfl
  have l1 := h.lt
  go_wp2_with fail
  have h := ((h.alloc (.cells #[] 3)).alloc (.cells #[.slice (some ⟨w1.heap.size, 0, none⟩) 0 0] 46))
  rw [World.size_alloc] at h
  have h := (h.f1.toRow (sz := 1) (off := 0) (cap := 0) 0 (Nat.le_refl _) (by unfold maxLen; omega) (by simp)).f1
  have h : St w No _ (Wt (w1.heap.size + 1) [] :: webL g n (nextOf E) (aheadOf n E) (.slice a1 n k1) (.slice a2 n k2) vs []) := St.wtClose h
  generalize w1.heap.size + 1 = gm at *
  clear c1 l1
  go_loopw [24] (RelA w g gm n E (.slice a1 n k1) (.slice a2 n k2) vs) (fun u _ => n - (intOf u).toNat)
  case atStart => exact ⟨0, [], rfl, by omega, by simp [zeros, nats], by intro k h0 hk; simp at hk, h⟩
  case round =>
    clear h
    obtain ⟨k, xs, rfl, hk, hp, hh, h⟩ := hrel
    have hxl : xs.length ≤ k := by rw [hp.length_eq, nats_length]; exact zeros_len n E k
    by_cases hlt : k < n
    · have hs : St w No wr (Row 3 1 (.slice a2 n k2) n (ints (aheadOf n E)) :: _) := h.f3
      obtain ⟨n2, m2, k2', hv, hc2, -⟩ := hs.rowOpen (by omega)
      cases hv
      have d1 : wr.cell? ⟨n2, m2 + k, none⟩ = some (.int .i64 ((aheadOf n E).getD k 0)) := hc2 k _ (ints_get (by rw [aheadOf_length]; exact hlt))
      have hle := aheadOf_le n E k
      have hz := zeros_succ n E k
      generalize hx : (aheadOf n E).getD k 0 = x at *
      clear hc2 hs hx
      have hki : (k : Int) < (n : Int) := by omega
      by_cases h0 : x = 0
      · subst h0
        rw [if_pos rfl] at hz
        have HZ := Lib.hid hz
        clear hz
        go_wp2_with fail
        refine (hpush_ok h hh (by omega)).mono ?_
        rintro e w2 ⟨rfl, ys, hp2, hh2, h2⟩
        clear d1
        go_wp2_with fail
        go_roundw
        case rel =>
          refine ⟨k + 1, ys, by go_num, by omega, ?_, hh2, h2⟩
          rw [HZ.out, nats_append]
          exact hp2.trans ((hp.cons _).trans (List.perm_append_singleton _ _).symm)
        case measure => simp [intOf]; omega
      · have hx0 : (x == 0) = false := by simpa using h0
        rw [if_neg h0] at hz
        have HZ := Lib.hid hz
        clear hz
        go_wp2_with fail
        go_roundw
        case rel => exact ⟨k + 1, xs, by go_num, by omega, by rw [HZ.out]; exact hp, hh, h⟩
        case measure => simp [intOf]; omega
    · have hkn : k = n := by omega
      subst hkn
      go_wp2_with fail
      have hz := made_zero h k hn
      have hs := KInv.start k E
      have hzz : zeros k E k = (List.range k).filter fun j => (aheadOf k E).getD j 0 == 0 := rfl
      rw [← hzz] at hs
      generalize zeros k E k = M0 at *
      clear hzz
      clear h hxl hlt hk hmk2
      generalize wr.alloc (.cells (madeCells #[.int .i64 0] k) 3) = wq at *
      generalize wr.heap.size = lb at *
      have h : St w No wq (Wt gm xs :: Row 3 1 (.slice none 0 0) ([] : List Nat).length (ints (nats [])) :: Row 3 1 (.slice (some ⟨lb, 0, none⟩) k k) k (ints (List.replicate k 0)) :: webL g k (nextOf E) (aheadOf k E) (.slice a1 k k1) (.slice a2 k k2) vs []) := (hz.addNil 3 1).f2
      clear hz
      go_loopw [4] (RelB w g gm k E (.slice a1 k k1) (.slice a2 k k2) (.slice (some ⟨lb, 0, none⟩) k k) vs) (fun u _ => k - sliceLen u)
      case atStart => exact ⟨[], aheadOf k E, List.replicate k 0, M0, xs, hs, hp, hh, h⟩
      case round =>
        clear h hs hp hh
        obtain ⟨ord, ah, lv, M, ys, hK, hp, hh, h⟩ := hrel
        obtain ⟨a4, k4, rfl⟩ := h.f1.rowForm
        have hMl : M.length ≤ k := nodup_le hK.mnd fun x hx => ((hK.mem x).1 hx).1
        have hol : ord.length ≤ k := nodup_le hK.nd hK.lt
        have hyl : ys.length = M.length := by rw [hp.length_eq, nats_length]
        obtain ⟨vm, hW⟩ := h.wtOpen
        obtain ⟨am, km, rfl⟩ := hW.f1.rowForm
        have cm := hW.cellv (j := 0) (v := .slice am ys.length km) rfl
        clear hW
        cases M with
        | nil =>
          have hy0 : ys = [] := List.eq_nil_of_length_eq_zero (by simpa using hyl)
          subst hy0
          go_wp2_with fail
          refine (len_ok _ _ _ _).mono ?_
          rintro e w2 ⟨rfl, rfl⟩
          go_wp2_with fail
          go_ret2
          exact ⟨_, _, ord, lv, rfl, hK.spec, St.left (L1 := [_, _]) h.drop1⟩
        | cons m0 M0 =>
          have hM0 : M0.length + 1 = ys.length := by simp at hyl; omega
          have HM0 := Lib.hid hM0
          have b0 : (0 : Int) < (ys.length : Int) := by omega
          clear hM0 hyl
          go_wp2_with fail
          refine (len_ok _ _ _ _).mono ?_
          rintro e w2 ⟨rfl, rfl⟩
          clear cm
          go_wp2_with fail
          refine (hpop_ok (n := M0.length) h hh HM0.out.symm (by simp at hMl; omega)).mono ?_
          rintro e w2 ⟨m, rfl, zs, hpz, hle, hhz, h2⟩
          obtain ⟨i, M', rfl, hpM, hMp, hMle⟩ := nats_mem (hpz.trans hp) hle
          have hI := hK.pop hMp hMle
          have hin : i < k := hI.lt i hI.hi
          have ta := ta3 (i : Int)
          clear hpz hle hp hMp hMle hK
          go_wp2_with (at_builtin; refine stop_at ?_)
          refine go_on ?_
          refine wl_append ((h2.alloc _).f2) Try.underlying24 info3 rfl (by decide) rfl rfl rfl (cell_one_new _ _ _) (by intro u hu; simp at hu; subst hu; rfl) (by unfold maxLen; omega) (by omega) ?_
          intro vo w3 h3 hs3
          have h3 := h3.f1.drop1.f1
          have eo : ints (nats ord) ++ [Value.int .i64 (i : Int)] = ints (nats (ord ++ [i])) := by simp [ints, nats]
          have eo2 : ord.length + 1 = (ord ++ [i]).length := by simp
          rw [eo, eo2] at h3
          have hol2 : (ord ++ [i]).length ≤ k := nodup_le hI.nd hI.lt
          generalize ord ++ [i] = ord2 at *
          clear eo hs3 h2 ta hh
          obtain ⟨a5, k5, rfl⟩ := h3.f1.rowForm
          have hr : St w No w3 (Row 24 1 (.slice a1 k k1) k ((List.range k).map vs) :: _) := h3.f4
          obtain ⟨n1, m1, k1', hv, hc1, -⟩ := hr.rowOpen (by omega)
          cases hv
          have hf : St w No w3 (Fam (rowsOf vs (nextOf E)) (List.range k) :: _) := h3.f6
          obtain ⟨ai, ki, hvi⟩ := (hf.famOut (List.mem_range.2 hin) : St w No w3 (Row 3 1 (vs i) (nextOf E i).length (ints (nextOf E i)) :: _)).rowForm
          have d1 : w3.cell? ⟨n1, m1 + i, none⟩ = some (.slice ai (nextOf E i).length ki) := by rw [← hvi]; exact hc1 i _ (by simp [hin])
          have d2 : w3.cell? ⟨g, 0, none⟩ = some (.slice (some ⟨n1, m1, none⟩) k k1) := (h3.f3 : St w No w3 (Pt g _ :: _)).cellv rfl
          have HVI := Lib.hid hvi
          have hii : (i : Int) < (k : Int) := by omega
          have hol3 : (outs E i).length = (nextOf E i).length := by rw [nextOf_outs, nats_length]
          have HOL := Lib.hid hol3
          have hno := nextOf_len E i
          clear hc1 hr hf hvi hol3
          go_wp2_with fail
          clear d1 d2
          have hpre : ∀ x ∈ outs E i, x < k := fun x hx => (HElt.out _ (outs_mem.1 hx)).2
          have HPre := Lib.hid hpre
          clear hpre
          go_loopw [63] (RelC w g gm k i E (.slice (some ⟨n1, m1, none⟩) k k1) (.slice a2 k k2) (.slice (some ⟨lb, 0, none⟩) k k) (.slice a5 ord2.length k5) vs ord2) (fun u _ => (nextOf E i).length - (intOf u).toNat)
          case atStart => exact ⟨0, ah, lv, M', zs, rfl, by omega, hI, hpM, hhz, h3⟩
          case round =>
            clear h3 hI hpM hhz
            obtain ⟨j, ah, lv, M, xs, rfl, hj, hI, hp, hh, h⟩ := hrel
            have hMl : M.length ≤ k := nodup_le hI.mnd fun x hx => ((hI.mem x).1 hx).1
            have hxl : xs.length = M.length := by rw [hp.length_eq, nats_length]
            by_cases hlt : j < (nextOf E i).length
            · have hlt' : j < (outs E i).length := by rw [HOL.out]; exact hlt
              obtain ⟨kk, hkk⟩ : ∃ kk, (outs E i)[j]? = some kk := ⟨_, List.getElem?_eq_getElem hlt'⟩
              have hkn : kk < k := HPre.out _ (List.mem_of_getElem? hkk)
              have hf : St w No wr (Fam (rowsOf vs (nextOf E)) (List.range k) :: _) := h.f6
              have hrow : St w No wr (Row 3 1 (vs i) (nextOf E i).length (ints (nextOf E i)) :: _) := hf.famOut (List.mem_range.2 hin)
              rw [HVI.out] at hrow
              obtain ⟨bi, oi, ki', hv, hci, -⟩ := hrow.rowOpen (by omega)
              cases hv
              have d1 : wr.cell? ⟨bi, oi + j, none⟩ = some (.int .i64 (kk : Int)) := hci j _ (by rw [nextOf_outs]; simp [ints, nats, hkk])
              have hlv : St w No wr (Row 3 1 (.slice (some ⟨lb, 0, none⟩) k k) k (ints lv) :: _) := h.f2
              have hli : lv.length = k := hI.lvl
              have d2 : wr.cell? ⟨lb, kk, none⟩ = some (.int .i64 (lv.getD kk 0)) := by have := row_cell hlv kk _ (by omega) (ints_get (by omega)); rwa [Nat.zero_add] at this
              have d3 : wr.cell? ⟨lb, i, none⟩ = some (.int .i64 (lv.getD i 0)) := by have := row_cell hlv i _ (by omega) (ints_get (by omega)); rwa [Nat.zero_add] at this
              have d4 := row_free hlv kk (by omega)
              have bx := hI.lv2 kk hkn
              have by_ := hI.lv2 i hin
              have cx := hI.lvc kk hkn
              have cy := hI.lvc i hin
              have bx := bx.1
              have by_ := by_.1
              have hki : (kk : Int) < (k : Int) := by omega
              clear hci hrow hf hlv
              obtain ⟨x, hx⟩ : ∃ x, lv.getD kk 0 = x := ⟨_, rfl⟩
              obtain ⟨y, hy⟩ : ∃ y, lv.getD i 0 = y := ⟨_, rfl⟩
              rw [hx] at d2 bx cx
              rw [hy] at d3 by_ cy
              have HX := Lib.hid hx
              have HY := Lib.hid hy
              have HL := Lib.hid hli
              have HXL := Lib.hid hxl
              have HKK := Lib.hid hkk
              clear hx hy hli hkk hxl
              have HH := Lib.hid h
              clear h
              go_upto_region 16 with fail
              go_cut [] (fun wx => St w No wx (Wt gm xs :: Row 3 1 (.slice a5 ord2.length k5) ord2.length (ints (nats ord2)) :: Row 3 1 (.slice (some ⟨lb, 0, none⟩) k k) k (ints (lv.set kk (max x (y + 1)))) :: webL g k (nextOf E) ah (.slice (some ⟨n1, m1, none⟩) k k1) (.slice a2 k k2) vs []))
              case first =>
                have hst : ∀ v, v = max x (y + 1) → St w No (wr.setCell ⟨lb, kk, none⟩ (.int .i64 v)).drew (Wt gm xs :: Row 3 1 (.slice a5 ord2.length k5) ord2.length (ints (nats ord2)) :: Row 3 1 (.slice (some ⟨lb, 0, none⟩) k k) k (ints (lv.set kk (max x (y + 1)))) :: webL g k (nextOf E) ah (.slice (some ⟨n1, m1, none⟩) k k1) (.slice a2 k k2) vs []) := by
                  rintro v rfl
                  have h1 := (HH.out.f2.rowSet kk (.int .i64 (max x (y + 1))) (by omega)).drew
                  rw [Nat.zero_add, ints_set] at h1
                  exact h1.f2.f2
                have HST := Lib.hid hst
                clear hst HH
                by_cases hxy : x < y + 1
                · go_region
                  all_goals (go_wp2_with fail; go_meet; exact HST.out _ (by omega))
                · have hxy : y + 1 ≤ x := by omega
                  go_region
                  all_goals (go_wp2_with fail; go_meet; exact HST.out _ (by omega))
              case rest =>
                clear d1 d2 d3 d4 HH
                have h := hcut
                clear hcut
                have hah : St w No wc (Row 3 1 (.slice a2 k k2) k (ints ah) :: _) := h.f5
                have hal := hI.ahl
                obtain ⟨n2, m2, k2', hv, -⟩ := hah.rowOpen (by omega)
                cases hv
                have e1 : wc.cell? ⟨n2, m2 + kk, none⟩ = some (.int .i64 (ah.getD kk 0)) := row_cell hah kk _ (by omega) (ints_get (by omega))
                have e2 := row_free hah (m2 + kk) (by omega)
                have e3 : wc.cell? ⟨g, 1, none⟩ = some (.slice (some ⟨n2, m2, none⟩) k k2) := (h.f3 : St w No wc (Pt g _ :: _)).cellv rfl
                have hout := (hI.out HKK.out).2
                have hahc := hI.ahc kk hkn
                have hcl := List.countP_le_length (p := fun e : Nat × Nat => e.2 == kk && !ord2.contains e.1) (l := E)
                have hcl2 := List.count_le_length (a := kk) (l := (outs E i).drop j)
                have hcl3 : ((outs E i).drop j).length ≤ 300 := by rw [List.length_drop, HOL.out]; omega
                obtain ⟨z, hz⟩ : ∃ z, ah.getD kk 0 = z := ⟨_, rfl⟩
                rw [hz] at e1 hahc
                have hzb : 1 ≤ z ∧ z ≤ 600 := by omega
                have hzb1 := hzb.1
                have hzb2 := hzb.2
                have HZ := Lib.hid hz
                have HAL := Lib.hid hal
                clear hz hal hahc hcl hcl2 hcl3 hout hzb
                go_upto_region 18 with fail
                have hah2 := hah.rowSet kk (.int .i64 (z - 1)) (by omega)
                rw [ints_set] at hah2
                have h : St w No _ (Wt gm xs :: Row 3 1 (.slice a5 ord2.length k5) ord2.length (ints (nats ord2)) :: Row 3 1 (.slice (some ⟨lb, 0, none⟩) k k) k (ints (lv.set kk (max x (y + 1)))) :: webL g k (nextOf E) (ah.set kk (z - 1)) (.slice (some ⟨n1, m1, none⟩) k k1) (.slice (some ⟨n2, m2, none⟩) k k2) vs []) := hah2.b5
                clear hah2 hah e1 e2 e3
                generalize wc.setCell ⟨n2, m2 + kk, none⟩ (.int .i64 (z - 1)) = wd at *
                have hah : St w No wd (Row 3 1 (.slice (some ⟨n2, m2, none⟩) k k2) k (ints (ah.set kk (z - 1))) :: _) := h.f5
                have e1 : wd.cell? ⟨n2, m2 + kk, none⟩ = some (.int .i64 (z - 1)) := row_cell hah kk _ (by omega) (by have := HAL.out; simp [ints, show kk < ah.length from by omega])
                have e3 : wd.cell? ⟨g, 1, none⟩ = some (.slice (some ⟨n2, m2, none⟩) k k2) := (h.f3 : St w No wd (Pt g _ :: _)).cellv rfl
                clear hah
                have step : ∀ (M2 : List Nat), M2.Perm (if z - 1 = 0 then kk :: M else M) → KIn k E ord2 i (j + 1) (ah.set kk (z - 1)) (lv.set kk (max x (y + 1))) M2 := by
                  intro M2 hM2
                  rw [← HZ.out] at hM2 ⊢
                  rw [← HX.out, ← HY.out]
                  exact hI.step HKK.out hkn hM2
                have STEP := Lib.hid step
                clear step
                by_cases hz1 : z = 1
                · subst hz1
                  have hxl := HXL.out
                  go_wp2_with fail
                  refine (hpush_ok h hh (by omega)).mono ?_
                  rintro e w4 ⟨rfl, ys2, hp2, hh2, h2⟩
                  clear e1 e3
                  go_wp2_with fail
                  go_roundw
                  case rel => exact ⟨j + 1, _, _, kk :: M, ys2, by go_num, by omega, STEP.out _ (by simp), hp2.trans (hp.cons _), hh2, h2⟩
                  case measure => simp [intOf]; omega
                · have hz0 : (z - 1 == 0) = false := by simp; omega
                  go_wp2_with fail
                  go_roundw
                  case rel => exact ⟨j + 1, _, _, M, xs, by go_num, by omega, STEP.out _ (by rw [if_neg (by omega)]), hp, hh, h⟩
                  case measure => simp [intOf]; omega
            · have hjl : (outs E i).length ≤ j := by have := HOL.out; omega
              go_wp2_with fail
              go_roundw
              case rel => exact ⟨ord2, ah, lv, M, xs, hI.done hjl, hp, hh, h⟩
              case measure => simp [sliceLen]; omega
end Go.Proofs.Ytofoibckfkbdoaa
