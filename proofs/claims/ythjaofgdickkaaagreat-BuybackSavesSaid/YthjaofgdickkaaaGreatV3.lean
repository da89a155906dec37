/- slices.IndexFunc, ContainsFunc, DeleteFunc at [](treasury/api.Tender), with a function value that may make memory.  slices.Clone at slices of bids and of numbers.  slices.Clone at slices of tenders, out of XCloneA. slices.insertionSortCmpFunc, SortStableFunc's blocks, at [](struct).  Stable sorting in place: exchanges of places far from each other. slices.swapRangeCmpFunc, rotateCmpFunc, at [](struct); printed by wip/gen/sortz2.py. slices.rotateCmpFunc, and symMergeCmpFunc's two short ways, at [](struct); printed by wip/gen/sortz2.py. Stable sorting: where an element falls in an ascending list. slices.symMergeCmpFunc's two short ways, at [](struct); printed by wip/gen/sortz2.py. Stable sorting: a merge cut in two. slices.symMergeCmpFunc at [](struct); printed by wip/gen/sortz2.py. Stable sorting: blocks that are sorted. slices.stableCmpFunc and SortStableFunc at [](struct); printed by wip/gen/sortz2.py. slices.SortStableFunc at a row that is owned, nil or not.  cmp.Compare at int (for seats without XRegA, which has it). cmp.Or at any numbers. Buyback: the small tests, the order of tenders; Check. Printed in part out of XAucA. Buyback: the source's tenders. slices.insertionSortCmpFunc, SortStableFunc's blocks, at []int. money.Parts in plain. Contracts of money's weight, checked, Share, Percent. slices.IndexFunc, ContainsFunc at []int, for any closure that tells a plain test. slices.swapRangeCmpFunc, rotateCmpFunc, at []int. slices.rotateCmpFunc, and symMergeCmpFunc's two short ways, at []int. slices.symMergeCmpFunc's short ways, at []int. slices.symMergeCmpFunc at []int. slices.stableCmpFunc and SortStableFunc at []int. money.Parts: its closures. The contract of money.Parts. Rows of rows; auction.Serve, without the bids (out of XAucC). -/
import Derived.Test.YthjaofgdickkaaaGreatUp
import Derived.Test.YthjaofgdickkaaaGreatV2
import Derived.Test.YthjaofgdickkaaaGreatOwn
import Derived.BigQuiet
import Derived.ChangeAlike
import Derived.Shelf.Abstract
import Derived.RegionTactic
import Derived.Test.YthjaofgdickkaaaGreatClone
import Derived.WalkSpells
import Derived.BigRegion
import Derived.Deep.DeepCutAuto
import Derived.Deep.CutBlock
import Derived.Deep.CutRange
import Derived.Test.YthjaofgdickkaaaGreatRow
import Derived.Test.YthjaofgdickkaaaGreatNum
import Derived.Deep.RegionHeld3
import Derived.Deep.QuietTactic
import Derived.Laws.OwnMore
import Derived.Lib.Hide
import Derived.Deep.AppendLies
import Derived.Maps.AppendAt
namespace Go.Proofs.YthjaofgdickkaaaGreat
open Go.RowKit
set_option linter.unusedVariables false
set_option linter.unusedSimpArgs false
def uTdr (x : Tdr) : Value := .agg #[.int .i64 x.h, .int .i64 x.n, .int .i64 x.p, .int .i64 x.a]
/-- the function F, bound to cb, gives p at the elements with Q in every world above w; it may make memory -/
def PrdTdr (F : Nat) (cb : Array Value) (p : Tdr → Bool) (Q : Tdr → Prop) (w : World) : Prop :=
  ∀ W, Below w.heap.size w W → ∀ x, Q x → Calls Tryz.prog F (#[uTdr x] ++ cb) W fun e w' => e = .returned (.bool (p x)) ∧ Below W.heap.size W w'
theorem PrdTdr.on {F : Nat} {cb : Array Value} {p : Tdr → Bool} {Q : Tdr → Prop} {w w' : World} (h : PrdTdr F cb p Q w) (hb : Below w.heap.size w w') : PrdTdr F cb p Q w' := fun W hW x hx => h W (bup hb hW) x hx
set_option maxHeartbeats 2000000 in
theorem ixfTdr_any (P : Nat → Prop) (F : Nat) (cb : Array Value) (p : Tdr → Bool) (Q : Tdr → Prop) (v : Value) (L : List Tdr) (w : World)
    (eg : ∀ args w, (callFunc F args).run Tryz.prog w = .ok (.enter F args) w) (hp : PrdTdr F cb p Q w) (hQ : ∀ x ∈ L, Q x) (hS : Sl 4 encTdr P w v L) (hlen : L.length ≤ 1000000) :
    Calls Tryz.prog 261 #[v, .func (.func F) #[] cb] w fun e w' => e = .returned (.int .i64 (if L.findIdx p < L.length then (L.findIdx p : Int) else -1)) ∧ Below w.heap.size w w' := by
  obtain ⟨ao, n, c, rfl, hn, hnc, hcm⟩ := hS.shape
  have hn1 : n ≤ 1000000 := by omega
  rw [hn]
  obtain ⟨q, hq⟩ : ∃ q, L.findIdx p = q := ⟨_, rfl⟩
  rw [hq]
  obtain ⟨r, hr⟩ : ∃ r, (if q < n then (q : Int) else -1) = r := ⟨_, rfl⟩
  rw [hr]
  have HC := Lib.hid hp
  have HX := Lib.hid hQ
  have HS := Lib.hid hS
  have HN := Lib.hid hn
  have HP := Lib.hid hq
  have HR := Lib.hid hr
  clear hS hn hq hlen hr hp hQ
  go_enter Tryz.func261, Tryz.ntmps261
  go_wp2
  go_loopw [8] (fun iv wr => ∃ k : Nat, k ≤ n ∧ iv = .int .i64 k ∧ q = k + (L.drop k).findIdx p ∧ Below w.heap.size w wr) (fun iv _ => n - (intOf iv).toNat)
  case atStart => exact ⟨0, by omega, rfl, by rw [List.drop_zero, Nat.zero_add]; exact HP.out.symm, brefl⟩
  case round =>
    obtain ⟨k, hk, rfl, hpk, hbr⟩ := hrel
    have zr := hbr.size
    by_cases hlt : k < n
    · obtain ⟨b, off, vh, vn, vp, va, rfl, -, hb', hL, k0, k1, k2, k3⟩ := (HS.out.below hbr).tdr hlt
      rw [drop_cons hL, List.findIdx_cons] at hpk
      have hc := HC.out wr hbr ⟨vh, vn, vp, va⟩ (HX.out _ (List.mem_of_getElem? hL))
      obtain ⟨t, ht⟩ : ∃ t, p ⟨vh, vn, vp, va⟩ = t := ⟨_, rfl⟩
      simp only [ht, uTdr] at hc
      rw [ht] at hpk
      have HCC := Lib.hid hc
      have HBR := Lib.hid hbr
      clear hL ht hc hbr
      cases t with
      | true =>
        have hfin := Lib.hid (show (k : Int) = r by simp at hpk; rw [← HR.out, if_pos (by omega)]; omega)
        clear hpk
        go_wp2_with fail
        refine HCC.out.mono ?_
        rintro e w' ⟨rfl, hb⟩
        go_wp2
        go_ret
        exact ⟨ret_int hfin.out, bup HBR.out hb⟩
      | false =>
        have HPK := Lib.hid (show q = (k + 1) + (L.drop (k + 1)).findIdx p by simp at hpk; omega)
        clear hpk
        go_wp2_with fail
        refine HCC.out.mono ?_
        rintro e w' ⟨rfl, hb⟩
        go_wp2
        go_roundw
        case rel => exact ⟨k + 1, by omega, by go_num, HPK.out, bup HBR.out hb⟩
        case measure => simp [intOf]; omega
    · rw [drop_all (by have := HN.out; omega)] at hpk
      have hfin := Lib.hid (show (-1 : Int) = r by simp at hpk; rw [← HR.out, if_neg (by omega)])
      clear hpk
      go_wp2
      go_ret
      exact ⟨ret_int hfin.out, hbr⟩
theorem idwTdr_any (p : Tdr → Bool) : ∀ L : List Tdr, L.any p = decide (0 ≤ (if L.findIdx p < L.length then (L.findIdx p : Int) else -1))
  | [] => by simp
  | x :: L => by
    have ih := idwTdr_any p L
    rw [List.findIdx_cons, List.any_cons]
    cases p x
    · simp only [Bool.false_or, cond_false, List.length_cons, ih, decide_eq_decide]
      split <;> split <;> omega
    · simp
theorem cnfTdr_any (P : Nat → Prop) (F : Nat) (cb : Array Value) (p : Tdr → Bool) (Q : Tdr → Prop) (v : Value) (L : List Tdr) (w : World)
    (eg : ∀ args w, (callFunc F args).run Tryz.prog w = .ok (.enter F args) w) (hp : PrdTdr F cb p Q w) (hQ : ∀ x ∈ L, Q x) (hS : Sl 4 encTdr P w v L) (hlen : L.length ≤ 1000000) :
    Calls Tryz.prog 200 #[v, .func (.func F) #[] cb] w fun e w' => e = .returned (.bool (L.any p)) ∧ Below w.heap.size w w' := by
  have H := ixfTdr_any P F cb p Q v L w eg hp hQ hS hlen
  rw [idwTdr_any]
  obtain ⟨r, hr⟩ : ∃ r, (if L.findIdx p < L.length then (L.findIdx p : Int) else -1) = r := ⟨_, rfl⟩
  rw [hr] at H ⊢
  obtain ⟨ao, n, c, rfl, -, -, -⟩ := hS.shape
  have HH := Lib.hid H
  clear H hr hp hQ hS hlen
  go_enter Tryz.func200, Tryz.ntmps200
  go_wp2_with fail
  refine HH.out.mono ?_
  rintro e w1 ⟨rfl, hb⟩
  go_wp2
  go_ret
  exact ⟨ret_bool (by first | rfl | simp), hb⟩
/-- the function F, bound to cb, gives p at the elements with Q wherever block g alone has turned; it may make memory -/
def ProTdr (F : Nat) (cb : Array Value) (g : Option Nat) (p : Tdr → Bool) (Q : Tdr → Prop) (w : World) : Prop :=
  ∀ W, w.grownBy W g → ∀ x, Q x → Calls Tryz.prog F (#[uTdr x] ++ cb) W fun e w' => e = .returned (.bool (p x)) ∧ Below W.heap.size W w'
theorem ProTdr.on {F : Nat} {cb : Array Value} {g : Option Nat} {p : Tdr → Bool} {Q : Tdr → Prop} {w w' : World} (h : ProTdr F cb g p Q w) (hg : w.grownBy w' g) : ProTdr F cb g p Q w' := fun W hW x hx => h W (ztrans hg hW) x hx
theorem ProTdr.prd {F : Nat} {cb : Array Value} {g : Option Nat} {p : Tdr → Bool} {Q : Tdr → Prop} {w : World} (h : ProTdr F cb g p Q w) : PrdTdr F cb p Q w := fun W hW x hx => h W (zbelow hW _) x hx
set_option maxHeartbeats 8000000 in
set_option maxRecDepth 100000 in
theorem dlrTdr_any (F : Nat) (cb : Array Value) (p : Tdr → Bool) (Q : Tdr → Prop) (base g n cap : Nat) (L : List Tdr) (w : World)
    (eg : ∀ args w, (callFunc F args).run Tryz.prog w = .ok (.enter F args) w) (hp : ProTdr F cb (some g) p Q w) (hQ : ∀ x ∈ L, Q x) (hrow : RowZ 122 4 encTdr base g n cap L w) (hn : n ≤ 1000000) (hn0 : 0 < n) :
    Calls Tryz.prog 194 #[.slice (some ⟨g, 0, none⟩) n cap, .func (.func F) #[] cb] w fun e w' => e = .returned (.slice (some ⟨g, 0, none⟩) (L.filter fun x => !p x).length cap) ∧ RowZ 122 4 encTdr base g (L.filter fun x => !p x).length cap (L.filter fun x => !p x) w' ∧ w.grownBy w' (some g) := by
  have hln := hrow.2
  obtain ⟨g', cap', rest, he, hbg, hg0, hnc, hcm, hxl, hrl⟩ := own_whole hrow.1 hn0
  cases he
  have H := ixfTdr_any (fun _ => True) F cb p Q _ L w eg hp.prd hQ (Sl.own encTdr_len hrow.1 hln (fun _ _ => trivial)) (by omega)
  obtain ⟨M, hM⟩ : ∃ M, L.filter (fun x => !p x) = M := ⟨_, rfl⟩
  obtain ⟨q, hq⟩ : ∃ q, L.findIdx p = q := ⟨_, rfl⟩
  rw [hq, hln] at H
  rw [hM]
  have HC := Lib.hid hp
  have HX := Lib.hid hQ
  have HM := Lib.hid hM
  have HQ := Lib.hid hq
  have HR := Lib.hid hrow
  have HLN := Lib.hid hln
  have hcm' := hcm
  unfold maxLen at hcm
  clear hp hQ hM hq hrow hln hxl hrl hg0
  by_cases hlt : q < n
  · rw [if_pos hlt] at H
    have HH := Lib.hid H
    clear H
    have hqz : ((q : Int) == -1) = false := by first | (simp; done) | (simp; omega)
    go_enter Tryz.func194, Tryz.ntmps194
    go_wp2_with fail
    refine HH.out.mono ?_
    rintro e w1 ⟨rfl, hb1⟩
    have HB1 := Lib.hid hb1
    clear hb1
    go_wp2
    go_loopw [5, 6] (fun iv jv wr => ∃ (i j : Nat) (D : List Tdr), iv = .int .i64 i ∧ jv = .int .i64 j ∧ j ≤ n ∧ i < j ∧ DlI L p D i j ∧ RowZ 122 4 encTdr base g n cap D wr ∧ w.grownBy wr (some g)) (fun _ jv _ => n - (intOf jv).toNat)
    case atStart => exact ⟨q, q + 1, L, rfl, by go_num, by omega, by omega, DlI.start HQ.out (by rw [HLN.out]; exact hlt), HR.out.below HB1.out, zbelow HB1.out _⟩
    case round =>
      obtain ⟨i, j, D, rfl, rfl, hjn, hij, hI, hr, hg⟩ := hrel
      by_cases hj : j < n
      · obtain ⟨x, hx⟩ : ∃ x, L[j]? = some x := ⟨_, List.getElem?_eq_getElem (by have := HLN.out; omega)⟩
        have hDx : D[j]? = some x := hI.get.trans hx
        have hc := fun W (hW : Below wr.heap.size wr W) => HC.out W (ztrans hg (zbelow hW _)) x (HX.out x (List.mem_of_getElem? hx))
        obtain ⟨t, ht⟩ : ∃ t, p x = t := ⟨_, rfl⟩
        simp only [ht, uTdr] at hc
        have hiD := hI.ilt
        have hDn := hr.2
        have HI := Lib.hid hI
        have HRW := Lib.hid hr
        have HG := Lib.hid hg
        have HXX := Lib.hid hx
        have HT := Lib.hid ht
        have HCC := Lib.hid hc
        have c0 := HRW.out.cell encTdr_len (i := 0) hDx rfl
        have c1 := HRW.out.cell encTdr_len (i := 1) hDx rfl
        have c2 := HRW.out.cell encTdr_len (i := 2) hDx rfl
        have c3 := HRW.out.cell encTdr_len (i := 3) hDx rfl
        simp only [Nat.add_zero] at c0
        have hjz : (j : Int) < (n : Int) := by omega
        clear hc hI hr hg hx ht hDx
        cases t with
        | true =>
          go_wp2_with fail
          refine (HCC.out _ (bal brefl _)).mono ?_
          rintro e w2 ⟨rfl, hb2⟩
          have HB2 := Lib.hid (bup (bal brefl _) hb2)
          clear hb2
          go_wp2
          go_roundw
          case rel => exact ⟨i, j + 1, D, rfl, by go_num, by omega, by omega, HI.out.skip HXX.out HT.out, HRW.out.below HB2.out, ztrans HG.out (zbelow HB2.out _)⟩
          case measure => simp [intOf]; omega
        | false =>
          obtain ⟨y, hy⟩ : ∃ y, D[i]? = some y := ⟨_, List.getElem?_eq_getElem (by omega)⟩
          have HY := Lib.hid hy
          clear hy
          go_wp2_with fail
          refine (HCC.out _ (bal brefl _)).mono ?_
          rintro e w2 ⟨rfl, hb2⟩
          have HB2 := Lib.hid (bup (bal brefl _) hb2)
          have b0 := (show w2.cell? ⟨wr.heap.size, 0, none⟩ = some (.int .i64 x.h) from boxed_cell hb2 0 rfl)
          have b1 := (show w2.cell? ⟨wr.heap.size, 1, none⟩ = some (.int .i64 x.n) from boxed_cell hb2 1 rfl)
          have b2 := (show w2.cell? ⟨wr.heap.size, 2, none⟩ = some (.int .i64 x.p) from boxed_cell hb2 2 rfl)
          have b3 := (show w2.cell? ⟨wr.heap.size, 3, none⟩ = some (.int .i64 x.a) from boxed_cell hb2 3 rfl)
          have HRW2 := Lib.hid (HRW.out.below HB2.out)
          have d0 := HRW2.out.cell encTdr_len (i := 0) HY.out rfl
          have d1 := HRW2.out.cell encTdr_len (i := 1) HY.out rfl
          have d2 := HRW2.out.cell encTdr_len (i := 2) HY.out rfl
          have d3 := HRW2.out.cell encTdr_len (i := 3) HY.out rfl
          simp only [Nat.add_zero] at d0
          have fr := fun o => HRW2.out.fro o
          have iz : (i : Int) < (n : Int) := by omega
          clear hb2
          go_wp2
          go_roundw
          case rel =>
            have hs := HRW2.out.set encTdr_len (j := i) (by omega) x
            skip
            exact ⟨i + 1, j + 1, D.set i x, by go_num, by go_num, by omega, by omega, HI.out.keep HXX.out HT.out, hs.1, ztrans HG.out (ztrans (zbelow HB2.out _) hs.2)⟩
          case measure => simp [intOf]; omega
      · obtain rfl : j = n := by omega
        obtain ⟨i1, hi1, hz0, hz1, hz2⟩ := info_parts infoTdr
        obtain ⟨g', cap', rest, he, -, hgw, -, -, hxl, hrl⟩ := own_whole hr.1 hn0
        cases he
        obtain ⟨Z, hZ⟩ : ∃ Z : Value, Z = .agg #[.int .i64 0, .int .i64 0, .int .i64 0, .int .i64 0] := ⟨_, rfl⟩
        have hzl : (Builtin.zeroCells Z.cells (j - i)).toList.length = (j - i) * 4 := by rw [Array.length_toList, size_zeroCells, hZ]; rfl
        have hzo : ∀ u ∈ (Builtin.zeroCells Z.cells (j - i)).toList, u.oneCell' = true := zero_one (by
          rw [hZ]; intro u hu
          simp only [Value.cells, List.mem_cons, List.not_mem_nil, or_false] at hu
          rcases hu with rfl | rfl | rfl | rfl <;> rfl) _
        have hfit : i * 4 + (j - i) * 4 ≤ cap * 4 := by rw [← Nat.add_mul]; exact Nat.mul_le_mul_right _ (by omega)
        obtain ⟨cur, hcur⟩ : ∃ cur, (flatE encTdr D ++ rest).toArray = cur := ⟨_, rfl⟩
        have hcsz : cur.size = cap * 4 := by rw [← hcur]; simpa using hrl
        rw [hcur] at hgw
        obtain ⟨W2, hW2⟩ : ∃ W2, W2 = wr.setRow g (cur.toList.take (i * 4) ++ (Builtin.zeroCells Z.cells (j - i)).toList ++ cur.toList.drop (i * 4 + (Builtin.zeroCells Z.cells (j - i)).toList.length)).toArray := ⟨_, rfl⟩
        have hcl : ∀ ty dc, (Builtin.clear_ #[117] ty #[.slice (some ⟨g, i * 4, none⟩) (j - i) dc]).run Tryz.prog wr = .ok (.tuple #[]) W2 := fun ty dc => by
          rw [hW2]
          exact run_clear_rowZ wr 117 122 ty i1 Z g (i * 4) (j - i) dc cur 122 Tryz.underlying117 hi1 (by rw [hz0, hZ]) hgw (by rw [hzl, hcsz]; exact hfit) hzo
        skip
        have hI0 := hI.fin (by have := HLN.out; omega)
        have hDn := hr.2
        have hiD := hI.ilt
        have hrow2 : RowZ 122 4 encTdr base g i cap (D.take i) W2 := RowZ.cut encTdr_len (Z := (Builtin.zeroCells Z.cells (j - i)).toList) hr (by omega) hzl (fun c hc => by
          rw [hgw] at hc; cases hc; rw [hW2]; exact heap_setRow hgw) hn0
        have hiM : M.length = i := by rw [← HM.out, ← hI0, List.length_take]; omega
        rw [hI0, HM.out] at hrow2
        have hg2 : w.grownBy W2 (some g) := by rw [hW2]; exact ztrans hg (grownBy_setRow _ _ _)
        have HC2 := Lib.hid hcl
        have HR2 := Lib.hid hrow2
        have HG2 := Lib.hid hg2
        have HIM := Lib.hid hiM
        have hil : i < j := by omega
        have hci : ¬ (cap = i) := by omega
        have hij2 : i ≤ j := by omega
        have hic : i ≤ cap := by omega
        clear hcl hrow2 hg2 hiM hW2 hgw hcur hcsz hfit hzo hzl hZ hI0 hI hr hg hz0 hz1 hz2 hi1 hxl hrl hDn hiD hij
        go_wp2_with (refine wpList_clear_runZ _ rfl (.tmp 38) 117 rfl (.slice (some ⟨g, i * 4, none⟩) (j - i) (cap - i)) rfl (HC2.out 0 (cap - i)) ?_)
        go_ret
        exact ⟨by rw [HIM.out]; rfl, by rw [HIM.out]; exact HR2.out, HG2.out⟩
  · rw [if_neg hlt] at H
    have HH := Lib.hid H
    have hML : M = L := by rw [← HM.out]; exact dl_none (by have := HLN.out; have := HQ.out; omega)
    subst hML
    rw [HLN.out]
    clear H
    go_enter Tryz.func194, Tryz.ntmps194
    go_wp2_with fail
    refine HH.out.mono ?_
    rintro e w1 ⟨rfl, hb1⟩
    go_wp2
    go_ret
    exact ⟨rfl, HR.out.below hb1, zbelow hb1 _⟩
/-- any row of the call's own, nil or not -/
theorem dlfTdr_any (F : Nat) (cb : Array Value) (p : Tdr → Bool) (Q : Tdr → Prop) (base : Nat) (v : Value) (L : List Tdr) (w : World)
    (eg : ∀ args w, (callFunc F args).run Tryz.prog w = .ok (.enter F args) w) (hp : ProTdr F cb v.ownBlock p Q w) (hQ : ∀ x ∈ L, Q x) (hown : w.ownsRow base 122 4 v L.length (flatE encTdr L)) (hn : L.length ≤ 1000000) :
    Calls Tryz.prog 194 #[v, .func (.func F) #[] cb] w fun e w' => ∃ v', e = .returned v' ∧ w'.ownsRow base 122 4 v' (L.filter fun x => !p x).length (flatE encTdr (L.filter fun x => !p x)) ∧ w.grownBy w' v.ownBlock := by
  rcases Nat.eq_zero_or_pos L.length with h0 | h0
  · obtain rfl : L = [] := List.eq_nil_of_length_eq_zero h0
    have H := ixfTdr_any (fun _ => True) F cb p Q _ [] w eg hp.prd hQ (Sl.own encTdr_len hown rfl (fun _ _ => trivial)) (by simp)
    obtain ⟨ao, c, rfl⟩ := own_sl hown
    have HH := Lib.hid H
    have HO := Lib.hid hown
    clear H hp hQ hown
    go_enter Tryz.func194, Tryz.ntmps194
    go_wp2_with fail
    refine HH.out.mono ?_
    rintro e w1 ⟨rfl, hb1⟩
    go_wp2
    go_ret
    exact ⟨_, rfl, ownsRow_belowZ HO.out hb1, zbelow hb1 _⟩
  · obtain ⟨g, cap, rest, rfl, hbg, hg, hnc, hcm, hxl, hrl⟩ := own_whole hown h0
    refine (dlrTdr_any F cb p Q base g L.length cap L w eg hp hQ ⟨hown, rfl⟩ hn h0).mono ?_
    rintro e w' ⟨rfl, hr, hgr⟩
    exact ⟨_, rfl, hr.1, hgr⟩
theorem oneEI (a : Int) : ∀ u ∈ encI a, u.oneCell' = true := by
  intro u hu
  simp only [encI, List.mem_cons, List.not_mem_nil, or_false] at hu
  subst hu; rfl
set_option maxHeartbeats 1000000 in
theorem cloneBid_any (P : Nat → Prop) (v : Value) (L : List Bid) (w : World) (h : Sl 5 encBid P w v L) (hlen : L.length ≤ 1000000) :
    Calls Tryz.prog 312 #[v] w (Copied 5 encBid 241 L w) := by
  obtain ⟨ao, n, c, rfl, hn, hnc, hcm, hcase⟩ := h
  have hn1 : n ≤ 1000000 := by omega
  obtain ⟨i1, hi, hz0, hz1, hz2⟩ := info_parts infoBid
  have HN := Lib.hid hn
  have e1 := @Lib.run_eql_slice_nil
  cases ao with
  | none =>
    have h0 : n = 0 := by
      rcases hcase with h | ⟨b, off, h, _⟩
      · exact h
      · cases h
    subst h0
    have hL : L = [] := List.eq_nil_of_length_eq_zero HN.out
    subst hL
    clear hn hcase
    go_enter Tryz.func312, Tryz.ntmps312
    go_wp2
    go_ret
    exact ⟨_, rfl, World.ownsRow_nil _ _ _ _, brefl⟩
  | some a =>
    have hsrc : ∀ j u, (flatE encBid L)[j]? = some u → (w.alloc (.cells #[] 241)).cell? (a.add j) = some u := by
      rcases hcase with h | ⟨b, off, h, _, hb, hc⟩
      · have hL : L = [] := List.eq_nil_of_length_eq_zero (by omega)
        subst hL
        intro j u hj
        simp [flatE] at hj
      · cases h
        intro j u hj
        rw [add_litZ]
        exact keepA (flatE_cells encBid_len L off hc j u hj)
    have hown : (w.alloc (.cells #[] 241)).ownsRow w.heap.size 241 5 (.slice (some ⟨w.heap.size, 0, none⟩) 0 0) 0 [] := World.ownsRow_made w #[] 0 (Nat.le_refl _) (Nat.zero_le _) rfl
    have HS := Lib.hid hsrc
    have hfl : (flatE encBid L).length = n * 5 := by rw [flatE_length encBid_len, hn]
    have HF := Lib.hid hfl
    obtain ⟨X, hX⟩ : ∃ X, flatE encBid L = X := ⟨_, rfl⟩
    have ho : ∀ u ∈ X, u.oneCell' = true := by rw [← hX]; exact oneE oneBid L
    rw [hX] at HS HF
    have HX := Lib.hid hX
    have HO := Lib.hid ho
    clear hsrc hn hcase hfl hX ho
    obtain ⟨ab, ao, asp⟩ := a
    go_enter Tryz.func312, Tryz.ntmps312
    go_wp2_with (at_builtin; refine wpList_append_own _ rfl _ _ 140 rfl w.heap.size 241 i1 (.agg #[.int .i64 0, .int .i64 0, .int .i64 0, .int .i64 0, .bool false]) 5 40 Tryz.underlying140 hi hz0 hz1 hz2 rfl (by decide) _ _ _ rfl hown ⟨ab, ao, asp⟩ n c X rfl HF.out HS.out HO.out (by unfold maxLen; omega) (by omega) (by simp) ?_; intro v' w2 hown' hgrow _)
    obtain ⟨av, cv, rfl⟩ := own_slice0 hown'
    go_wp2
    go_ret
    exact ⟨_, rfl, by rw [HX.out, HN.out]; simpa using hown', (bal brefl _).grown hgrow (by simp) (fun q hq => by cases hq; exact Nat.le_refl _)⟩
set_option maxHeartbeats 1000000 in
theorem cloneEI_any (P : Nat → Prop) (v : Value) (L : List Int) (w : World) (h : Sl 1 encI P w v L) (hlen : L.length ≤ 1000000) :
    Calls Tryz.prog 265 #[v] w (Copied 1 encI 3 L w) := by
  obtain ⟨ao, n, c, rfl, hn, hnc, hcm, hcase⟩ := h
  have hn1 : n ≤ 1000000 := by omega
  obtain ⟨i1, hi, hz0, hz1, hz2⟩ := info_parts infoInt
  have HN := Lib.hid hn
  have e1 := @Lib.run_eql_slice_nil
  cases ao with
  | none =>
    have h0 : n = 0 := by
      rcases hcase with h | ⟨b, off, h, _⟩
      · exact h
      · cases h
    subst h0
    have hL : L = [] := List.eq_nil_of_length_eq_zero HN.out
    subst hL
    clear hn hcase
    go_enter Tryz.func265, Tryz.ntmps265
    go_wp2
    go_ret
    exact ⟨_, rfl, World.ownsRow_nil _ _ _ _, brefl⟩
  | some a =>
    have hsrc : ∀ j u, (flatE encI L)[j]? = some u → (w.alloc (.cells #[] 3)).cell? (a.add j) = some u := by
      rcases hcase with h | ⟨b, off, h, _, hb, hc⟩
      · have hL : L = [] := List.eq_nil_of_length_eq_zero (by omega)
        subst hL
        intro j u hj
        simp [flatE] at hj
      · cases h
        intro j u hj
        rw [add_litZ]
        exact keepA (flatE_cells encI_len L off hc j u hj)
    have hown : (w.alloc (.cells #[] 3)).ownsRow w.heap.size 3 1 (.slice (some ⟨w.heap.size, 0, none⟩) 0 0) 0 [] := World.ownsRow_made w #[] 0 (Nat.le_refl _) (Nat.zero_le _) rfl
    have HS := Lib.hid hsrc
    have hfl : (flatE encI L).length = n * 1 := by rw [flatE_length encI_len, hn]
    have HF := Lib.hid hfl
    obtain ⟨X, hX⟩ : ∃ X, flatE encI L = X := ⟨_, rfl⟩
    have ho : ∀ u ∈ X, u.oneCell' = true := by rw [← hX]; exact oneE oneEI L
    rw [hX] at HS HF
    have HX := Lib.hid hX
    have HO := Lib.hid ho
    clear hsrc hn hcase hfl hX ho
    obtain ⟨ab, ao, asp⟩ := a
    go_enter Tryz.func265, Tryz.ntmps265
    go_wp2_with (at_builtin; refine wpList_append_own _ rfl _ _ 22 rfl w.heap.size 3 i1 (.int .i64 0) 1 8 Tryz.underlying22 hi hz0 hz1 hz2 rfl (by decide) _ _ _ rfl hown ⟨ab, ao, asp⟩ n c X rfl HF.out HS.out HO.out (by unfold maxLen; omega) (by omega) (by simp) ?_; intro v' w2 hown' hgrow _)
    obtain ⟨av, cv, rfl⟩ := own_slice0 hown'
    go_wp2
    go_ret
    exact ⟨_, rfl, by rw [HX.out, HN.out]; simpa using hown', (bal brefl _).grown hgrow (by simp) (fun q hq => by cases hq; exact Nat.le_refl _)⟩
set_option maxHeartbeats 1000000 in
theorem cloneTdr_any (P : Nat → Prop) (v : Value) (L : List Tdr) (w : World) (h : Sl 4 encTdr P w v L) (hlen : L.length ≤ 1000000) :
    Calls Tryz.prog 195 #[v] w (Copied 4 encTdr 122 L w) := by
  obtain ⟨ao, n, c, rfl, hn, hnc, hcm, hcase⟩ := h
  have hn1 : n ≤ 1000000 := by omega
  obtain ⟨i1, hi, hz0, hz1, hz2⟩ := info_parts infoTdr
  have HN := Lib.hid hn
  have e1 := @Lib.run_eql_slice_nil
  cases ao with
  | none =>
    have h0 : n = 0 := by
      rcases hcase with h | ⟨b, off, h, _⟩
      · exact h
      · cases h
    subst h0
    have hL : L = [] := List.eq_nil_of_length_eq_zero HN.out
    subst hL
    clear hn hcase
    go_enter Tryz.func195, Tryz.ntmps195
    go_wp2
    go_ret
    exact ⟨_, rfl, World.ownsRow_nil _ _ _ _, brefl⟩
  | some a =>
    have hsrc : ∀ j u, (flatE encTdr L)[j]? = some u → (w.alloc (.cells #[] 122)).cell? (a.add j) = some u := by
      rcases hcase with h | ⟨b, off, h, _, hb, hc⟩
      · have hL : L = [] := List.eq_nil_of_length_eq_zero (by omega)
        subst hL
        intro j u hj
        simp [flatE] at hj
      · cases h
        intro j u hj
        rw [add_litZ]
        exact keepA (flatE_cells encTdr_len L off hc j u hj)
    have hown : (w.alloc (.cells #[] 122)).ownsRow w.heap.size 122 4 (.slice (some ⟨w.heap.size, 0, none⟩) 0 0) 0 [] := World.ownsRow_made w #[] 0 (Nat.le_refl _) (Nat.zero_le _) rfl
    have HS := Lib.hid hsrc
    have hfl : (flatE encTdr L).length = n * 4 := by rw [flatE_length encTdr_len, hn]
    have HF := Lib.hid hfl
    obtain ⟨X, hX⟩ : ∃ X, flatE encTdr L = X := ⟨_, rfl⟩
    have ho : ∀ u ∈ X, u.oneCell' = true := by rw [← hX]; exact oneE oneTdr L
    rw [hX] at HS HF
    have HX := Lib.hid hX
    have HO := Lib.hid ho
    clear hsrc hn hcase hfl hX ho
    obtain ⟨ab, ao, asp⟩ := a
    go_enter Tryz.func195, Tryz.ntmps195
    go_wp2_with (at_builtin; refine wpList_append_own _ rfl _ _ 117 rfl w.heap.size 122 i1 (.agg #[.int .i64 0, .int .i64 0, .int .i64 0, .int .i64 0]) 4 32 Tryz.underlying117 hi hz0 hz1 hz2 rfl (by decide) _ _ _ rfl hown ⟨ab, ao, asp⟩ n c X rfl HF.out HS.out HO.out (by unfold maxLen; omega) (by omega) (by simp) ?_; intro v' w2 hown' hgrow _)
    obtain ⟨av, cv, rfl⟩ := own_slice0 hown'
    go_wp2
    go_ret
    exact ⟨_, rfl, by rw [HX.out, HN.out]; simpa using hown', (bal brefl _).grown hgrow (by simp) (fun q hq => by cases hq; exact Nat.le_refl _)⟩
def vTdr (x : Tdr) : Value := .agg #[.int .i64 x.h, .int .i64 x.n, .int .i64 x.p, .int .i64 x.a]
/-- the function F, bound to cb, compares two elements with Q wherever block g alone has turned; it may make memory -/
def CmpTdr (F : Nat) (cb : Array Value) (g : Nat) (cf : Tdr → Tdr → Int) (Q : Tdr → Prop) (w : World) : Prop :=
  ∀ W, w.grownBy W (some g) → ∀ x y, Q x → Q y → Calls Tryz.prog F (#[vTdr x, vTdr y] ++ cb) W fun e w' => e = .returned (.int .i64 (cf x y)) ∧ Below W.heap.size W w'
theorem CmpTdr.on {F : Nat} {cb : Array Value} {g : Nat} {cf : Tdr → Tdr → Int} {Q : Tdr → Prop} {w w' : World} (h : CmpTdr F cb g cf Q w) (hg : w.grownBy w' (some g)) : CmpTdr F cb g cf Q w' :=
  fun W hW x y hx hy => h W (ztrans hg hW) x y hx hy
abbrev RowTdr (base g n cap : Nat) (L : List Tdr) (w : World) : Prop := RowZ 122 4 encTdr base g n cap L w
set_option maxHeartbeats 8000000 in
set_option maxRecDepth 100000 in
theorem insTdr_any (F : Nat) (cb : Array Value) (cf : Tdr → Tdr → Int) (Q : Tdr → Prop) (base g n cap a b : Nat) (X A Y : List Tdr) (w : World)
    (eg : ∀ args w, (callFunc F args).run Tryz.prog w = .ok (.enter F args) w) (hcmp : CmpTdr F cb g cf Q w) (hW : Wk (ltz cf)) (hQ : ∀ x ∈ A, Q x)
    (hrow : RowTdr base g n cap (X ++ A ++ Y) w) (ha : X.length = a) (hb : a + A.length = b) (hn : n ≤ 1000000000) :
    Calls Tryz.prog 294 #[.slice (some ⟨g, 0, none⟩) n cap, .int .i64 a, .int .i64 b, .func (.func F) #[] cb] w fun e w' => e = .returned (.tuple #[]) ∧ RowTdr base g n cap (X ++ srt (ltz cf) A ++ Y) w' ∧ w.grownBy w' (some g) := by
  have hlen : X.length + A.length + Y.length = n := by have := hrow.2; simp at this; omega
  have hbn : b ≤ n := by omega
  have HC := Lib.hid hcmp
  have HQ := Lib.hid hQ
  have HA := Lib.hid ha
  have HB := Lib.hid hb
  have HW := Lib.hid hW
  have HR := Lib.hid hrow
  clear hcmp hQ hW hrow hlen ha
  go_enter Tryz.func294, Tryz.ntmps294
  go_wp2
  go_loopw [8] (fun iv wr => ∃ i : Nat, a + 1 ≤ i ∧ i ≤ b + 1 ∧ iv = .int .i64 i ∧ RowTdr base g n cap (X ++ srt (ltz cf) (A.take (i - a)) ++ (A.drop (i - a) ++ Y)) wr ∧ w.grownBy wr (some g)) (fun iv _ => (b + 1) - (intOf iv).toNat)
  case atStart =>
    refine ⟨a + 1, by omega, by omega, by go_num, ?_, zrefl _ _⟩
    rw [show a + 1 - a = 1 by omega]
    have e : srt (ltz cf) (A.take 1) = A.take 1 := by
      cases A with
      | nil => rfl
      | cons x A => exact srt_one x
    rw [e, ← List.append_assoc, List.append_assoc X, List.take_append_drop]
    exact HR.out
  case round =>
    obtain ⟨i, hi1, hi2, rfl, hr, hg⟩ := hrel
    by_cases hlt : i < b
    · have hltz : (i : Int) < (b : Int) := by omega
      obtain ⟨x, hx⟩ : ∃ x, A[i - a]? = some x := ⟨_, List.getElem?_eq_getElem (by omega)⟩
      have hdrop := drop_cons hx
      have htake := take_snocZ hx
      have hxQ := HQ.out x (List.mem_of_getElem? hx)
      obtain ⟨S, hS⟩ : ∃ S, srt (ltz cf) (A.take (i - a)) = S := ⟨_, rfl⟩
      have hSl : S.length = i - a := by rw [← hS, srt_length, List.length_take]; omega
      have hSa : Asc (ltz cf) S := by rw [← hS]; exact srt_asc HW.out _
      have hSQ : ∀ z ∈ S, Q z := fun z hz => by rw [← hS] at hz; exact HQ.out z (List.mem_of_mem_take ((srt_mem _ _).1 hz))
      have hnext : srt (ltz cf) (A.take (i + 1 - a)) = mrg (ltz cf) S [x] := by rw [show i + 1 - a = i - a + 1 by omega, htake, srt_append HW.out, hS, srt_one]
      have hdrop' : A.drop (i + 1 - a) = A.drop (i - a + 1) := by rw [show i + 1 - a = i - a + 1 by omega]
      rw [hS, hdrop] at hr
      obtain ⟨T, hT⟩ : ∃ T, A.drop (i - a + 1) ++ Y = T := ⟨_, rfl⟩
      have hr' : RowTdr base g n cap (X ++ S ++ x :: T) wr := by rw [← hT]; exact hr
      have hstart : InInz (ltz cf) X S T x i (X ++ S ++ x :: T) := ⟨S, [], by simp, by have := HA.out; omega, by simp, by simp⟩
      have HN := Lib.hid hnext
      have HD := Lib.hid hdrop'
      have HT := Lib.hid hT
      have HS := Lib.hid hSa
      have HSQ := Lib.hid hSQ
      have HR' := Lib.hid hr'
      have HST := Lib.hid hstart
      have HG := Lib.hid hg
      have HXQ := Lib.hid hxQ
      clear hx hdrop htake hS hSl hSa hSQ hnext hdrop' hr hT hr' hstart hg hxQ
      go_wp2
      go_loopw [9] (fun jv wr => ∃ (j : Nat) (D : List Tdr), a ≤ j ∧ j ≤ i ∧ jv = .int .i64 j ∧ InInz (ltz cf) X S T x j D ∧ RowTdr base g n cap D wr ∧ w.grownBy wr (some g)) (fun jv _ => (intOf jv).toNat)
      case atStart => exact ⟨i, _, by omega, by omega, rfl, HST.out, HR'.out, HG.out⟩
      case round =>
        obtain ⟨j, D, hj1, hj2, rfl, hI, hrow, hgr⟩ := hrel
        have done : (j = a ∨ ∃ y, D[j - 1]? = some y ∧ ltz cf x y = false) → D = X ++ srt (ltz cf) (A.take (i + 1 - a)) ++ (A.drop (i + 1 - a) ++ Y) := fun h => by
          rw [HN.out, HD.out, HT.out]
          exact hI.out HW.out HS.out (h.imp (fun h => by rw [HA.out]; exact h) id)
        have DONE := Lib.hid done
        clear done
        by_cases hja : a < j
        · obtain ⟨P, y, R, hD, hP, hstep⟩ := hI.step (by rw [HA.out]; exact hja)
          have hyQ : Q y := hI.mem HSQ.out (by rw [HA.out]; exact hja) (y := y) (by rw [hD, show j - 1 = P.length by omega]; exact (zget_pair P R y x).1)
          have hy1 : D[j - 1]? = some y := by rw [hD, show j - 1 = P.length by omega]; exact (zget_pair P R y x).1
          obtain ⟨jp, hjp⟩ : ∃ jp, jp = P.length := ⟨_, rfl⟩
          rw [← hjp] at hP hstep
          obtain rfl : j = jp + 1 := by omega
          have HDD := Lib.hid hD
          rw [hD] at hrow
          obtain ⟨x0, x1, x2, x3⟩ := x
          obtain ⟨y0, y1, y2, y3⟩ := y
          have hcp := (zget_pair P R (⟨y0, y1, y2, y3⟩ : Tdr) ⟨x0, x1, x2, x3⟩).1
          have hcj := (zget_pair P R (⟨y0, y1, y2, y3⟩ : Tdr) ⟨x0, x1, x2, x3⟩).2
          rw [← hjp] at hcp hcj
          obtain ⟨j1, hj1e⟩ : ∃ j1, j1 = jp + 1 := ⟨_, rfl⟩
          rw [← hj1e] at hcj
          have cp0 := hrow.cell encTdr_len (i := 0) hcp rfl; have cp1 := hrow.cell encTdr_len (i := 1) hcp rfl; have cp2 := hrow.cell encTdr_len (i := 2) hcp rfl; have cp3 := hrow.cell encTdr_len (i := 3) hcp rfl
          have cj0 := hrow.cell encTdr_len (i := 0) hcj rfl; have cj1 := hrow.cell encTdr_len (i := 1) hcj rfl; have cj2 := hrow.cell encTdr_len (i := 2) hcj rfl; have cj3 := hrow.cell encTdr_len (i := 3) hcj rfl
          simp only [Nat.add_zero] at cp0 cj0
          have fr := fun o => hrow.fro o
          have FR := Lib.hid fr
          have jz : (j1 : Int) < (n : Int) := by omega
          have jz1 : (jp : Int) < (n : Int) := by omega
          have p0 : (0 : Int) ≤ (j1 : Int) := by omega
          have hjaz : decide (a < j1) = true := by simp; omega
          have hj1i : j1 ≤ i := by omega
          have haj1 : a ≤ jp := by omega
          have hjaz2 : a < j1 := by omega
          have hw0 : (j1 : Int) - 1 = (jp : Int) := by omega
          have ejj : ((jp + 1 : Nat) : Int) = (j1 : Int) := by omega
          have hc := fun W (hW : Below wr.heap.size wr W) => HC.out W (ztrans hgr (zbelow hW _)) ⟨x0, x1, x2, x3⟩ ⟨y0, y1, y2, y3⟩ HXQ.out hyQ
          obtain ⟨c, hcf⟩ : ∃ c, cf ⟨x0, x1, x2, x3⟩ ⟨y0, y1, y2, y3⟩ = c := ⟨_, rfl⟩
          simp only [hcf, vTdr] at hc
          have HCC := Lib.hid hc
          have HCF := Lib.hid hcf
          have HI := Lib.hid hI
          have HJP := Lib.hid hjp
          have HJ1 := Lib.hid hj1e
          have HP := Lib.hid hP
          have HST2 := Lib.hid hstep
          have HROW := Lib.hid hrow
          have HGR := Lib.hid hgr
          have HY1 := Lib.hid hy1
          clear hcf hI hjp hstep hD hrow hgr hyQ hy1 hP hcp hcj hc fr hj1e
          have cp0u := up_cell cp0; have cp1u := up_cell cp1; have cp2u := up_cell cp2; have cp3u := up_cell cp3; have cj0u := up_cell cj0; have cj1u := up_cell cj1; have cj2u := up_cell cj2; have cj3u := up_cell cj3
          rw [ejj]
          clear ejj hj1 hj2 hja
          by_cases hneg : c < 0
          · have hlt1 : ltz cf ⟨x0, x1, x2, x3⟩ ⟨y0, y1, y2, y3⟩ = true := by unfold ltz; rw [HCF.out]; exact decide_eq_true hneg
            have HL1 := Lib.hid hlt1
            clear hlt1
            go_upto_region 4 with fail
            (refine wp_region_up (by kernel_rfl) (by kernel_rfl) ?_); (repeat (go_big_quiet_step (((go_at_fn F; refine (HCC.out _ (Subtype.property _)).mono ?_; exact fun _ _ hh => ⟨hh.1, ⟨_, bup (Subtype.property _) hh.2⟩, rfl⟩))))); (refine wpQuiet_nil ?_); (rintro w2 ⟨⟨_, hb2⟩, rfl⟩)
            have HROW2 := Lib.hid (HROW.out.below hb2)
            have HGR2 := Lib.hid (ztrans HGR.out (zbelow hb2 _))
            have cp0 := keepB hb2 cp0; have cj0 := keepB hb2 cj0; have cp1 := keepB hb2 cp1; have cj1 := keepB hb2 cj1; have cp2 := keepB hb2 cp2; have cj2 := keepB hb2 cj2; have cp3 := keepB hb2 cp3; have cj3 := keepB hb2 cj3
            have fr := fun o => HROW2.out.fro o
            clear cp0u cp1u cp2u cp3u cj0u cj1u cj2u cj3u HROW HGR hb2
            go_wp2_with fail
            go_region
            all_goals go_wp2
            go_roundw
            case rel =>
              have hx := HROW2.out.nbr encTdr_len 1 HJP.out.symm HJ1.out
              exact ⟨jp, _, by omega, by omega, by first | rfl | go_num | (congr 1; omega), HST2.out HL1.out, hx.1, ztrans HGR2.out hx.2⟩
            case measure => simp [intOf]; have := HJ1.out; omega
          · have hlt1 : ltz cf ⟨x0, x1, x2, x3⟩ ⟨y0, y1, y2, y3⟩ = false := by unfold ltz; rw [HCF.out]; exact decide_eq_false hneg
            have hfin := DONE.out (.inr ⟨⟨y0, y1, y2, y3⟩, HY1.out, hlt1⟩)
            have HF := Lib.hid hfin
            clear hlt1 hfin
            go_upto_region 4 with fail
            (refine wp_region_up (by kernel_rfl) (by kernel_rfl) ?_); (repeat (go_big_quiet_step (((go_at_fn F; refine (HCC.out _ (Subtype.property _)).mono ?_; exact fun _ _ hh => ⟨hh.1, ⟨_, bup (Subtype.property _) hh.2⟩, rfl⟩))))); (refine wpQuiet_nil ?_); (rintro w2 ⟨⟨_, hb2⟩, rfl⟩)
            go_wp2
            go_roundw
            case rel => exact ⟨i + 1, by omega, by omega, by go_num, by rw [← HF.out, HDD.out]; exact HROW.out.below hb2, ztrans HGR.out (zbelow hb2 _)⟩
            case measure => simp [intOf]; omega
        · obtain rfl : j = a := by omega
          have HF := Lib.hid (DONE.out (.inl rfl))
          have HROW := Lib.hid hrow
          have HGR := Lib.hid hgr
          clear DONE hI hrow hgr hja
          have hd : decide ((j : Int) < (j : Int)) = false := by simp
          go_wp2_with fail
          go_quiet (fail)
          go_wp2
          go_roundw
          case rel => exact ⟨i + 1, by omega, by omega, by go_num, by rw [← HF.out]; exact HROW.out.drewN nq, ztrans HGR.out ⟨rfl, rfl, rfl, Nat.le_refl _, fun _ _ _ => rfl⟩⟩
          case measure => simp [intOf]; omega
    · have hd : ¬ (i : Int) < (b : Int) := by omega
      have hfin : X ++ srt (ltz cf) (A.take (i - a)) ++ (A.drop (i - a) ++ Y) = X ++ srt (ltz cf) A ++ Y := by
        rw [List.take_of_length_le (by have := HB.out; omega), List.drop_of_length_le (by have := HB.out; omega), List.nil_append]
      rw [hfin] at hr
      have HR2 := Lib.hid hr
      have HG2 := Lib.hid hg
      clear hfin hr hg
      go_wp2
      go_end0
      exact ⟨rfl, by simpa using HR2.out, HG2.out⟩
theorem zget_at {α : Type} (P R : List α) (x : α) {j : Nat} (h : P.length = j) : (P ++ x :: R)[j]? = some x := by subst h; simp
theorem zset_two {α : Type} (P M R : List α) (x y a b : α) {i j : Nat} (hi : P.length = i) (hj : i + 1 + M.length = j) : ((P ++ x :: (M ++ y :: R)).set i a).set j b = P ++ a :: (M ++ b :: R) := by
  subst hi
  rw [List.set_append_right _ _ (by omega), Nat.sub_self, List.set_cons_zero, List.set_append_right _ _ (by omega), show j - P.length = (j - P.length - 1) + 1 by omega, List.set_cons_succ, List.set_append_right _ _ (by omega), show j - P.length - 1 - M.length = 0 by omega, List.set_cons_zero]
theorem RowZ.two {α : Type} {enc : α → List Value} {z : Nat} {T : TypeId} {base g n cap : Nat} {w : World} (hz : ∀ a, (enc a).length = z) {P M R : List α} {x y : α} (h : RowZ T z enc base g n cap (P ++ x :: (M ++ y :: R)) w) (q : Nat) {i j : Nat} (hi : P.length = i) (hj : i + 1 + M.length = j) :
    RowZ T z enc base g n cap (P ++ y :: (M ++ x :: R)) ((setAllW (setAllW w g (i * z) (enc y)) g (j * z) (enc x)).drewN q) ∧ w.grownBy ((setAllW (setAllW w g (i * z) (enc y)) g (j * z) (enc x)).drewN q) (some g) := by
  have := h.swap hz (i := i) (j := j) (by simp; omega) (by simp; omega) y x q
  rwa [zset_two P M R x y y x hi hj] at this
set_option maxHeartbeats 4000000 in
set_option maxRecDepth 100000 in
theorem swapRTdr_any (fv : Value) (base g n cap a b k : Nat) (X U M V Y : List Tdr) (w : World)
    (hrow : RowTdr base g n cap (X ++ U ++ M ++ V ++ Y) w) (ha : X.length = a) (hU : U.length = k) (hb : a + k + M.length = b) (hV : V.length = k) (hn : n ≤ 1000000000) :
    Calls Tryz.prog 345 #[.slice (some ⟨g, 0, none⟩) n cap, .int .i64 a, .int .i64 b, .int .i64 k, fv] w fun e w' => e = .returned (.tuple #[]) ∧ RowTdr base g n cap (X ++ V ++ M ++ U ++ Y) w' ∧ w.grownBy w' (some g) := by
  have hlen : X.length + U.length + M.length + V.length + Y.length = n := by have := hrow.2; simp at this; omega
  have hbn : b + k ≤ n := by omega
  have hab : a + k ≤ b := by omega
  have HA := Lib.hid ha
  have HU := Lib.hid hU
  have HB := Lib.hid hb
  have HV := Lib.hid hV
  have HR := Lib.hid hrow
  clear hrow hlen ha hU hb hV
  go_enter Tryz.func345, Tryz.ntmps345
  go_wp2
  go_loopw [10] (fun iv wr => ∃ i : Nat, i ≤ k ∧ iv = .int .i64 i ∧ RowTdr base g n cap (X ++ V.take i ++ U.drop i ++ M ++ U.take i ++ V.drop i ++ Y) wr ∧ w.grownBy wr (some g)) (fun iv _ => k - (intOf iv).toNat)
  case atStart => exact ⟨0, by omega, rfl, by simpa using HR.out, zrefl _ _⟩
  case round =>
    obtain ⟨i, hi, rfl, hr, hg⟩ := hrel
    by_cases hlt : i < k
    · obtain ⟨x, hx⟩ : ∃ x, U[i]? = some x := ⟨_, List.getElem?_eq_getElem (by have := HU.out; omega)⟩
      obtain ⟨y, hy⟩ : ∃ y, V[i]? = some y := ⟨_, List.getElem?_eq_getElem (by have := HV.out; omega)⟩
      have e1 : X ++ V.take i ++ U.drop i ++ M ++ U.take i ++ V.drop i ++ Y = (X ++ V.take i) ++ x :: ((U.drop (i + 1) ++ M ++ U.take i) ++ y :: (V.drop (i + 1) ++ Y)) := by
        rw [drop_cons hx, drop_cons hy]; simp
      have e2 : (X ++ V.take i) ++ y :: ((U.drop (i + 1) ++ M ++ U.take i) ++ x :: (V.drop (i + 1) ++ Y)) = X ++ V.take (i + 1) ++ U.drop (i + 1) ++ M ++ U.take (i + 1) ++ V.drop (i + 1) ++ Y := by
        rw [take_snocZ hx, take_snocZ hy]; simp
      obtain ⟨P, hP⟩ : ∃ P, X ++ V.take i = P := ⟨_, rfl⟩
      obtain ⟨M', hM⟩ : ∃ M', U.drop (i + 1) ++ M ++ U.take i = M' := ⟨_, rfl⟩
      obtain ⟨R, hR⟩ : ∃ R, V.drop (i + 1) ++ Y = R := ⟨_, rfl⟩
      have hPl : P.length = a + i := by rw [← hP, List.length_append, List.length_take]; have := HA.out; have := HV.out; omega
      have hMl : a + i + 1 + M'.length = b + i := by
        rw [← hM, List.length_append, List.length_append, List.length_take, List.length_drop]; have := HU.out; have := HB.out; omega
      rw [e1, hP, hM, hR] at hr
      rw [hP, hM, hR] at e2
      have hcx := zget_at P (M' ++ y :: R) x hPl
      have hcy : (P ++ x :: (M' ++ y :: R))[b + i]? = some y := by
        have := zget_at (P ++ x :: M') R y (j := b + i) (by simp; omega)
        simpa using this
      obtain ⟨p, hp0⟩ : ∃ p, p = a + i := ⟨_, rfl⟩
      obtain ⟨r, hr0⟩ : ∃ r, r = b + i := ⟨_, rfl⟩
      rw [← hp0] at hcx
      rw [← hr0] at hcy
      obtain ⟨x0, x1, x2, x3⟩ := x
      obtain ⟨y0, y1, y2, y3⟩ := y
      have cx0 := hr.cell encTdr_len (i := 0) hcx rfl; have cx1 := hr.cell encTdr_len (i := 1) hcx rfl; have cx2 := hr.cell encTdr_len (i := 2) hcx rfl; have cx3 := hr.cell encTdr_len (i := 3) hcx rfl; simp only [Nat.add_zero] at cx0
      have cy0 := hr.cell encTdr_len (i := 0) hcy rfl; have cy1 := hr.cell encTdr_len (i := 1) hcy rfl; have cy2 := hr.cell encTdr_len (i := 2) hcy rfl; have cy3 := hr.cell encTdr_len (i := 3) hcy rfl; simp only [Nat.add_zero] at cy0
      have fr := fun o => hr.fro o
      have HE := Lib.hid e2
      have HPL := Lib.hid hPl
      have HML := Lib.hid hMl
      have HROW := Lib.hid hr
      have HG := Lib.hid hg
      clear hx hy e1 e2 hP hM hR hPl hMl hr hg hcx hcy
      have z1 : (a : Int) + i < n := by omega
      have z2 : (b : Int) + i < n := by omega
      have q1 : (0 : Int) ≤ (a : Int) + i := by omega
      have q2 : (0 : Int) ≤ (b : Int) + i := by omega
      have t1 : ((a : Int) + i).toNat = a + i := by omega
      have t2 : ((b : Int) + i).toNat = b + i := by omega
      have v1 : IntKind.i64.wrap ((a : Int) + i) = (a : Int) + i := by rw [IntKind.wrap_i64]; omega
      have v2 : IntKind.i64.wrap ((b : Int) + i) = (b : Int) + i := by rw [IntKind.wrap_i64]; omega
      rw [← hp0] at t1
      rw [← hr0] at t2
      have HPI := Lib.hid hp0
      have HRI := Lib.hid hr0
      have w1 : (a : Int) + i = (p : Int) := by omega
      have w2 : (b : Int) + i = (r : Int) := by omega
      have hpr : p ≠ r := by omega
      have z1' : (p : Int) < n := by omega
      have z2' : (r : Int) < n := by omega
      clear hp0 hr0 z1 z2 q1 q2 t1 t2 v1 v2
      go_wp2_with fail
      go_region
      all_goals go_wp2
      go_roundw
      case rel =>
        have hx := HROW.out.two encTdr_len 1 HPL.out HML.out
        rw [← HPI.out, ← HRI.out] at hx
        exact ⟨i + 1, by omega, by go_num, by rw [← HE.out]; exact hx.1, ztrans HG.out hx.2⟩
      case measure => simp [intOf]; omega
    · have hd : ¬ (i : Int) < (k : Int) := by omega
      have hfin : X ++ V.take i ++ U.drop i ++ M ++ U.take i ++ V.drop i ++ Y = X ++ V ++ M ++ U ++ Y := by
        rw [List.take_of_length_le (by have := HV.out; omega), List.drop_of_length_le (by have := HU.out; omega), List.take_of_length_le (by have := HU.out; omega), List.drop_of_length_le (by have := HV.out; omega)]
        simp
      rw [hfin] at hr
      have HR2 := Lib.hid hr
      have HG2 := Lib.hid hg
      clear hfin hr hg
      go_wp2
      go_end0
      exact ⟨rfl, by simpa using HR2.out, HG2.out⟩
set_option maxHeartbeats 4000000 in
set_option maxRecDepth 100000 in
theorem rotTdr_any (fv : Value) (base g n cap a m b : Nat) (X U V Y : List Tdr) (w : World)
    (hrow : RowTdr base g n cap (X ++ U ++ V ++ Y) w) (ha : X.length = a) (hm : a + U.length = m) (hb : m + V.length = b) (hU : 0 < U.length) (hV : 0 < V.length) (hn : n ≤ 1000000000) :
    Calls Tryz.prog 329 #[.slice (some ⟨g, 0, none⟩) n cap, .int .i64 a, .int .i64 m, .int .i64 b, fv] w fun e w' => e = .returned (.tuple #[]) ∧ RowTdr base g n cap (X ++ V ++ U ++ Y) w' ∧ w.grownBy w' (some g) := by
  have hlen : X.length + U.length + V.length + Y.length = n := by have := hrow.2; simp at this; omega
  have hbn : b ≤ n := by omega
  obtain ⟨i0, hi0⟩ : ∃ i0, U.length = i0 := ⟨_, rfl⟩
  obtain ⟨j0, hj0⟩ : ∃ j0, V.length = j0 := ⟨_, rfl⟩
  rw [hi0] at hm hU
  rw [hj0] at hb hV
  have e1 : (m : Int) - a = i0 := by omega
  have e2 : (b : Int) - m = j0 := by omega
  have HA := Lib.hid ha
  have HI := Lib.hid hi0
  have HJ := Lib.hid hj0
  have HR := Lib.hid hrow
  have HM := Lib.hid hm
  have HB := Lib.hid hb
  clear hrow hlen ha hi0 hj0
  go_enter Tryz.func329, Tryz.ntmps329
  go_wp2
  go_loopw [10, 11] (fun iv jv wr => ∃ (i j : Nat) (X' U' V' Y' : List Tdr), iv = .int .i64 i ∧ jv = .int .i64 j ∧ U'.length = i ∧ V'.length = j ∧ 0 < i ∧ 0 < j ∧ X'.length + i = m ∧ m + j ≤ n ∧ X' ++ V' ++ U' ++ Y' = X ++ V ++ U ++ Y ∧ RowTdr base g n cap (X' ++ U' ++ V' ++ Y') wr ∧ w.grownBy wr (some g)) (fun iv jv _ => (intOf iv).toNat + (intOf jv).toNat)
  case atStart => exact ⟨i0, j0, X, U, V, Y, rfl, rfl, HI.out, HJ.out, hU, hV, by have := HA.out; omega, by omega, rfl, HR.out, zrefl _ _⟩
  case round =>
    obtain ⟨i, j, X', U', V', Y', rfl, rfl, hU', hV', hi, hj, hX, hmj, hL, hr, hg⟩ := hrel
    clear e1 e2
    obtain ⟨p, hp⟩ : ∃ p, X'.length = p := ⟨_, rfl⟩
    rw [hp] at hX
    have ep : (m : Int) - i = p := by omega
    have HP := Lib.hid hp
    have HU := Lib.hid hU'
    have HV := Lib.hid hV'
    have HX := Lib.hid hX
    have HL := Lib.hid hL
    have HR' := Lib.hid hr
    have HG := Lib.hid hg
    clear hp hU' hV' hX hL hr hg
    by_cases hij : i = j
    · subst hij
      have hc := fun W (hW : W = wr) => swapRTdr_any fv base g n cap p m i X' U' [] V' Y' W (by rw [hW]; simpa using HR'.out) HP.out HU.out (by have := HX.out; simp; omega) HV.out hn
      have hne : ((i : Int) != (i : Int)) = false := by simp
      go_wp2_with (go_at_call 345; refine (hc _ rfl).mono ?_; rintro e w2 ⟨rfl, hr2, hg2⟩)
      go_end0
      refine ⟨rfl, ?_, ztrans HG.out hg2⟩
      have := HL.out
      simp only [List.append_nil, List.append_assoc] at hr2 this ⊢
      rw [← this]
      exact hr2
    · have hne : ((i : Int) == (j : Int)) = false := by simp; omega
      have hne2 : ((i : Int) != (j : Int)) = true := by simp; omega
      by_cases hgt : j < i
      · obtain ⟨U1, U2, hUU, hU1⟩ : ∃ U1 U2, U' = U1 ++ U2 ∧ U1.length = j := ⟨U'.take j, U'.drop j, (List.take_append_drop _ _).symm, by rw [List.length_take]; have := HU.out; omega⟩
        have hU2 : U2.length = i - j := by have := HU.out; rw [hUU, List.length_append] at this; omega
        have hc := fun W (hW : W = wr) => swapRTdr_any fv base g n cap p m j X' U1 U2 V' Y' W (by rw [hW]; have := HR'.out; rw [hUU] at this; simpa using this) HP.out hU1 (by have := HX.out; omega) HV.out hn
        have hL' : (X' ++ V') ++ U1 ++ U2 ++ Y' = X ++ V ++ U ++ Y := by rw [← HL.out, hUU]; simp
        have HUU := Lib.hid hUU
        have HU1 := Lib.hid hU1
        have HU2 := Lib.hid hU2
        have HL' := Lib.hid hL'
        have es : (i : Int) - j = ((i - j : Nat) : Int) := by omega
        have hgz : (j : Int) < (i : Int) := by omega
        clear hUU hU1 hU2 hL'
        go_wp2_with (go_at_call 345; refine (hc _ rfl).mono ?_; rintro e w2 ⟨rfl, hr2, hg2⟩)
        have HR2 := Lib.hid hr2
        have HG2 := Lib.hid (ztrans HG.out hg2)
        clear hr2 hg2
        go_roundw
        case rel => exact ⟨i - j, j, X' ++ V', U2, U1, Y', by first | rfl | (congr 1; omega), rfl, HU2.out, HU1.out, by omega, by omega, by have := HX.out; have := HP.out; have := HV.out; simp; omega, by omega, HL'.out, by simpa using HR2.out, HG2.out⟩
        case measure => simp [intOf]; omega
      · obtain ⟨V1, V2, hVV, hV2⟩ : ∃ V1 V2, V' = V1 ++ V2 ∧ V2.length = i := ⟨V'.take (j - i), V'.drop (j - i), (List.take_append_drop _ _).symm, by rw [List.length_drop]; have := HV.out; omega⟩
        have hV1 : V1.length = j - i := by have := HV.out; rw [hVV, List.length_append] at this; omega
        have hc := fun W (hW : W = wr) => swapRTdr_any fv base g n cap p (m + j - i) i X' U' V1 V2 Y' W (by rw [hW]; have := HR'.out; rw [hVV] at this; simpa using this) HP.out HU.out (by have := HX.out; omega) hV2 hn
        have hL' : X' ++ V1 ++ V2 ++ (U' ++ Y') = X ++ V ++ U ++ Y := by rw [← HL.out, hVV]; simp
        have HVV := Lib.hid hVV
        have HV1 := Lib.hid hV1
        have HV2 := Lib.hid hV2
        have HL' := Lib.hid hL'
        have es : (j : Int) - i = ((j - i : Nat) : Int) := by omega
        have es2 : (m : Int) + j - i = ((m + j - i : Nat) : Int) := by omega
        have hgz : ¬ (j : Int) < (i : Int) := by omega
        clear hVV hV1 hV2 hL'
        go_wp2_with (go_at_call 345; refine (hc _ rfl).mono ?_; rintro e w2 ⟨rfl, hr2, hg2⟩)
        have HR2 := Lib.hid hr2
        have HG2 := Lib.hid (ztrans HG.out hg2)
        clear hr2 hg2
        go_roundw
        case rel => exact ⟨i, j - i, X', V2, V1, U' ++ Y', rfl, by first | rfl | (congr 1; omega), HV2.out, HV1.out, by omega, by omega, by have := HX.out; have := HP.out; omega, by omega, HL'.out, by simpa using HR2.out, HG2.out⟩
        case measure => simp [intOf]; omega
section
variable {α : Type} {lt : α → α → Bool}
theorem asc_getZ (H : Wk lt) {B : List α} (hB : Asc lt B) {k l : Nat} {y z : α} (hkl : k ≤ l) (hy : B[k]? = some y) (hz : B[l]? = some z) : lt z y = false := by
  rcases Nat.lt_or_ge k l with h | h
  · obtain ⟨hk, rfl⟩ := List.getElem?_eq_some_iff.1 hy
    obtain ⟨hl, rfl⟩ := List.getElem?_eq_some_iff.1 hz
    exact (List.pairwise_iff_getElem.1 hB) k l hk hl h
  · have : k = l := by omega
    subst this
    rw [hy] at hz
    cases hz
    exact H.irr _
theorem mem_takeqZ {B : List α} {i : Nat} {y : α} (h : y ∈ B.take i) : ∃ k, k < i ∧ B[k]? = some y := by
  obtain ⟨k, hk⟩ := List.mem_iff_getElem?.1 h
  have hl := (List.getElem?_eq_some_iff.1 hk).1
  rw [List.length_take] at hl
  rw [List.getElem?_take_of_lt (by omega)] at hk
  exact ⟨k, by omega, hk⟩
theorem mem_dropqZ {B : List α} {i : Nat} {y : α} (h : y ∈ B.drop i) : ∃ k, i ≤ k ∧ B[k]? = some y := by
  obtain ⟨k, hk⟩ := List.mem_iff_getElem?.1 h
  rw [List.getElem?_drop] at hk
  exact ⟨i + k, by omega, hk⟩
theorem asc_loZ (H : Wk lt) {B : List α} (hB : Asc lt B) {x : α} {i : Nat} (h : i = 0 ∨ ∃ y, B[i - 1]? = some y ∧ lt y x = true) : ∀ y ∈ B.take i, lt y x = true := by
  intro y hy
  obtain ⟨k, hk, hk2⟩ := mem_takeqZ hy
  rcases h with h | ⟨z, hz, hl⟩
  · omega
  · exact H.le_lt (asc_getZ H hB (show k ≤ i - 1 by omega) hk2 hz) hl
theorem asc_hiZ (H : Wk lt) {B : List α} (hB : Asc lt B) {x : α} {i : Nat} (h : B.length ≤ i ∨ ∃ y, B[i]? = some y ∧ lt y x = false) : ∀ y ∈ B.drop i, lt y x = false := by
  intro y hy
  obtain ⟨k, hk, hk2⟩ := mem_dropqZ hy
  rcases h with h | ⟨z, hz, hl⟩
  · have := (List.getElem?_eq_some_iff.1 hk2).1; omega
  · exact H.tr _ _ _ (asc_getZ H hB hk hz hk2) hl
theorem asc_loqZ (H : Wk lt) {B : List α} (hB : Asc lt B) {x : α} {i : Nat} (h : i = 0 ∨ ∃ y, B[i - 1]? = some y ∧ lt x y = false) : ∀ y ∈ B.take i, lt x y = false := by
  intro y hy
  obtain ⟨k, hk, hk2⟩ := mem_takeqZ hy
  rcases h with h | ⟨z, hz, hl⟩
  · omega
  · exact H.tr _ _ _ hl (asc_getZ H hB (show k ≤ i - 1 by omega) hk2 hz)
theorem asc_hiqZ (H : Wk lt) {B : List α} (hB : Asc lt B) {x : α} {i : Nat} (h : B.length ≤ i ∨ ∃ y, B[i]? = some y ∧ lt x y = true) : ∀ y ∈ B.drop i, lt x y = true := by
  intro y hy
  obtain ⟨k, hk, hk2⟩ := mem_dropqZ hy
  rcases h with h | ⟨z, hz, hl⟩
  · have := (List.getElem?_eq_some_iff.1 hk2).1; omega
  · exact H.lt_le hl (asc_getZ H hB hk hz hk2)
theorem mrg_put_backZ {S1 S2 : List α} {x : α} (h1 : ∀ y ∈ S1, lt x y = false) (h2 : ∀ y ∈ S2, lt x y = true) : mrg lt (S1 ++ S2) [x] = S1 ++ x :: S2 := by
  have e1 := mrg_append (lt := lt) S1 [] (A2 := S2) (B2 := [x]) (fun a ha b hb => by rw [List.mem_singleton.1 hb]; exact h1 a ha) (by simp)
  have e2 := mrg_append (lt := lt) [] [x] (A2 := S2) (B2 := ([] : List α)) (by simp) (fun a ha b hb => by rw [List.mem_singleton.1 hb]; exact h2 a ha)
  rw [List.nil_append, mrg_nil_r] at e1
  rw [List.nil_append, List.append_nil, mrg_nil_l, mrg_nil_r] at e2
  rw [e1, e2]; rfl
end
theorem halfZ (i j : Nat) (h : i < j) : ∃ k : Nat, ((i : Int) + (j : Int)) / 2 = (k : Int) ∧ i ≤ k ∧ k < j := ⟨(i + j) / 2, by omega, by omega, by omega⟩
set_option maxHeartbeats 4000000 in
set_option maxRecDepth 100000 in
theorem symMTdr_one (F : Nat) (cb : Array Value) (cf : Tdr → Tdr → Int) (Q : Tdr → Prop) (base g n cap a m b : Nat) (x : Tdr) (X B Y : List Tdr) (w : World)
    (eg : ∀ args w, (callFunc F args).run Tryz.prog w = .ok (.enter F args) w) (hcmp : CmpTdr F cb g cf Q w) (hW : Wk (ltz cf)) (hQx : Q x) (hQ : ∀ y ∈ B, Q y) (hB : Asc (ltz cf) B)
    (hrow : RowTdr base g n cap (X ++ x :: (B ++ Y)) w) (ha : X.length = a) (hm : m = a + 1) (hb : m + B.length = b) (hn : n ≤ 1000000000) :
    Calls Tryz.prog 295 #[.slice (some ⟨g, 0, none⟩) n cap, .int .i64 a, .int .i64 m, .int .i64 b, .func (.func F) #[] cb] w fun e w' => e = .returned (.tuple #[]) ∧ RowTdr base g n cap (X ++ mrg (ltz cf) [x] B ++ Y) w' ∧ w.grownBy w' (some g) := by
  have hlen : X.length + B.length + Y.length + 1 = n := by have := hrow.2; simp at this; omega
  have hbn : b ≤ n := by omega
  have hmb : m ≤ b := by omega
  have e1 : (m : Int) - a = 1 := by omega
  have HC := Lib.hid hcmp
  have HQ := Lib.hid hQ
  have HA := Lib.hid ha
  have HM := Lib.hid hm
  have HB := Lib.hid hb
  have HW := Lib.hid hW
  have HS := Lib.hid hB
  have HR := Lib.hid hrow
  have haz : (a : Int) < n := by omega
  have ham : a < m := by omega
  clear hcmp hQ hW hB hrow hlen ha hm hb
  go_enter Tryz.func295, Tryz.ntmps295
  go_wp2
  go_loopw [10, 11] (fun iv jv wr => ∃ i j : Nat, m ≤ i ∧ i ≤ j ∧ j ≤ b ∧ iv = .int .i64 i ∧ jv = .int .i64 j ∧ (i - m = 0 ∨ ∃ y, B[i - m - 1]? = some y ∧ ltz cf y x = true) ∧ (B.length ≤ j - m ∨ ∃ y, B[j - m]? = some y ∧ ltz cf y x = false) ∧ RowTdr base g n cap (X ++ x :: (B ++ Y)) wr ∧ w.grownBy wr (some g)) (fun iv jv _ => (intOf jv).toNat - (intOf iv).toNat)
  case atStart => exact ⟨m, b, by omega, hmb, by omega, rfl, rfl, .inl (by omega), .inl (by have := HB.out; omega), HR.out, zrefl _ _⟩
  case round =>
    obtain ⟨i, j, hmi, hij, hjb, rfl, rfl, hlo, hhi, hr, hg⟩ := hrel
    clear e1
    by_cases hlt : i < j
    · obtain ⟨k, hk, hk1, hk2⟩ := halfZ i j hlt
      obtain ⟨y, hy⟩ : ∃ y, B[k - m]? = some y := ⟨_, List.getElem?_eq_getElem (by have := HB.out; omega)⟩
      have hcx := zget_at X (B ++ Y) x HA.out
      have hcy : (X ++ x :: (B ++ Y))[k]? = some y := by
        rw [List.getElem?_append_right (by have := HA.out; have := HM.out; omega), show k - X.length = (k - m) + 1 by have := HA.out; have := HM.out; omega, List.getElem?_cons_succ, List.getElem?_append_left (by have := HB.out; omega)]
        exact hy
      have cx0 : wr.cell? ⟨g, a * 4, none⟩ = some (.int .i64 x.h) := hr.cell encTdr_len (i := 0) hcx rfl; have cx1 : wr.cell? ⟨g, a * 4 + 1, none⟩ = some (.int .i64 x.n) := hr.cell encTdr_len (i := 1) hcx rfl; have cx2 : wr.cell? ⟨g, a * 4 + 2, none⟩ = some (.int .i64 x.p) := hr.cell encTdr_len (i := 2) hcx rfl; have cx3 : wr.cell? ⟨g, a * 4 + 3, none⟩ = some (.int .i64 x.a) := hr.cell encTdr_len (i := 3) hcx rfl
      have cy0 : wr.cell? ⟨g, k * 4, none⟩ = some (.int .i64 y.h) := hr.cell encTdr_len (i := 0) hcy rfl; have cy1 : wr.cell? ⟨g, k * 4 + 1, none⟩ = some (.int .i64 y.n) := hr.cell encTdr_len (i := 1) hcy rfl; have cy2 : wr.cell? ⟨g, k * 4 + 2, none⟩ = some (.int .i64 y.p) := hr.cell encTdr_len (i := 2) hcy rfl; have cy3 : wr.cell? ⟨g, k * 4 + 3, none⟩ = some (.int .i64 y.a) := hr.cell encTdr_len (i := 3) hcy rfl
      have hc := fun W (hW : Below wr.heap.size wr W) => HC.out W (ztrans hg (zbelow hW _)) y x (HQ.out y (List.mem_of_getElem? hy)) hQx
      obtain ⟨c, hcf⟩ : ∃ c, cf y x = c := ⟨_, rfl⟩
      simp only [hcf, vTdr] at hc
      have HCC := Lib.hid hc
      have cx0u := up_cell cx0; have cx1u := up_cell cx1; have cx2u := up_cell cx2; have cx3u := up_cell cx3
      have cy0u := up_cell cy0; have cy1u := up_cell cy1; have cy2u := up_cell cy2; have cy3u := up_cell cy3
      clear hc hcx hcy
      have hkz : (k : Int) < n := by omega
      have HCF := Lib.hid hcf
      have HLO := Lib.hid hlo
      have HHI := Lib.hid hhi
      have HY := Lib.hid hy
      have HROW := Lib.hid hr
      have HG := Lib.hid hg
      clear hcf hlo hhi hy hr hg
      by_cases hneg : c < 0
      all_goals
        go_upto_region 5 with fail
        (refine wp_region_up (by kernel_rfl) (by kernel_rfl) ?_); (repeat (go_big_quiet_step (((go_at_fn F; refine (HCC.out _ (Subtype.property _)).mono ?_; exact fun _ _ hh => ⟨hh.1, ⟨_, bup (Subtype.property _) hh.2⟩, rfl⟩))))); (refine wpQuiet_nil ?_); (rintro w2 ⟨⟨_, hb2⟩, rfl⟩)
        go_wp2
        go_roundw
        case rel => first
          | exact ⟨k + 1, j, by omega, by omega, by omega, by go_num, rfl, .inr ⟨y, by rw [show k + 1 - m - 1 = k - m by omega]; exact HY.out, by unfold ltz; rw [HCF.out]; exact decide_eq_true hneg⟩, HHI.out, HROW.out.below hb2, ztrans HG.out (zbelow hb2 _)⟩
          | exact ⟨i, k, by omega, by omega, by omega, rfl, rfl, HLO.out, .inr ⟨y, HY.out, by unfold ltz; rw [HCF.out]; exact decide_eq_false (by omega)⟩, HROW.out.below hb2, ztrans HG.out (zbelow hb2 _)⟩
        case measure => simp [intOf]; omega
    · obtain rfl : i = j := by omega
      have h1 := asc_loZ HW.out HS.out hlo
      have h2 := asc_hiZ HW.out HS.out hhi
      obtain ⟨B1, hB1⟩ : ∃ B1, B.take (i - m) = B1 := ⟨_, rfl⟩
      obtain ⟨B2, hB2⟩ : ∃ B2, B.drop (i - m) = B2 := ⟨_, rfl⟩
      have hBB : B = B1 ++ B2 := by rw [← hB1, ← hB2, List.take_append_drop]
      have hl1 : B1.length = i - m := by rw [← hB1, List.length_take]; have := HB.out; omega
      rw [hB1] at h1
      rw [hB2] at h2
      have hfin : X ++ mrg (ltz cf) [x] B ++ Y = X ++ B1 ++ x :: (B2 ++ Y) := by rw [hBB, mrg_put_front h1 h2]; simp
      rw [hBB] at hr
      have HF := Lib.hid hfin
      have HL1 := Lib.hid hl1
      have HROW := Lib.hid hr
      have HG := Lib.hid hg
      clear h1 h2 hB1 hB2 hBB hl1 hfin hr hg hlo hhi
      go_wp2
      go_loopw [13] (fun kv wr => ∃ k : Nat, a ≤ k ∧ k + 1 ≤ i ∧ kv = .int .i64 k ∧ RowTdr base g n cap (X ++ B1.take (k - a) ++ x :: (B1.drop (k - a) ++ (B2 ++ Y))) wr ∧ w.grownBy wr (some g)) (fun kv _ => i - (intOf kv).toNat)
      case atStart => exact ⟨a, by omega, by omega, rfl, by rw [Nat.sub_self]; simpa using HROW.out, HG.out⟩
      case round =>
        obtain ⟨k, hk1, hk2, rfl, hr, hg⟩ := hrel
        have hM := HM.out
        by_cases hki : k + 1 < i
        · obtain ⟨y, hy⟩ : ∃ y, B1[k - a]? = some y := ⟨_, List.getElem?_eq_getElem (by have := HL1.out; omega)⟩
          rw [drop_cons hy, show k - a + 1 = k + 1 - a by omega] at hr
          obtain ⟨P, hP⟩ : ∃ P, X ++ B1.take (k - a) = P := ⟨_, rfl⟩
          obtain ⟨R, hR⟩ : ∃ R, B1.drop (k + 1 - a) ++ (B2 ++ Y) = R := ⟨_, rfl⟩
          have hPl : P.length = k := by rw [← hP, List.length_append, List.length_take]; have := HA.out; have := HL1.out; omega
          have e2 : P ++ y :: x :: R = X ++ B1.take (k + 1 - a) ++ x :: (B1.drop (k + 1 - a) ++ (B2 ++ Y)) := by
            rw [← hP, ← hR, show k + 1 - a = k - a + 1 by omega, take_snocZ hy]; simp
          rw [hP, List.cons_append, hR] at hr
          have hck := hPl ▸ (zget_pair P R x y).1
          have hck1 := hPl ▸ (zget_pair P R x y).2
          obtain ⟨k1, hk1'⟩ : ∃ k1, k1 = k + 1 := ⟨_, rfl⟩
          rw [← hk1'] at hck1
          have ck0 : wr.cell? ⟨g, k * 4, none⟩ = some (.int .i64 x.h) := hr.cell encTdr_len (i := 0) hck rfl; have ck1 : wr.cell? ⟨g, k * 4 + 1, none⟩ = some (.int .i64 x.n) := hr.cell encTdr_len (i := 1) hck rfl; have ck2 : wr.cell? ⟨g, k * 4 + 2, none⟩ = some (.int .i64 x.p) := hr.cell encTdr_len (i := 2) hck rfl; have ck3 : wr.cell? ⟨g, k * 4 + 3, none⟩ = some (.int .i64 x.a) := hr.cell encTdr_len (i := 3) hck rfl
          have cl0 : wr.cell? ⟨g, k1 * 4, none⟩ = some (.int .i64 y.h) := hr.cell encTdr_len (i := 0) hck1 rfl; have cl1 : wr.cell? ⟨g, k1 * 4 + 1, none⟩ = some (.int .i64 y.n) := hr.cell encTdr_len (i := 1) hck1 rfl; have cl2 : wr.cell? ⟨g, k1 * 4 + 2, none⟩ = some (.int .i64 y.p) := hr.cell encTdr_len (i := 2) hck1 rfl; have cl3 : wr.cell? ⟨g, k1 * 4 + 3, none⟩ = some (.int .i64 y.a) := hr.cell encTdr_len (i := 3) hck1 rfl
          have fr := fun o => hr.fro o
          clear hck hck1
          have z1 : (k : Int) + 1 < n := by omega
          have z0 : (k : Int) < n := by omega
          have q1 : (0 : Int) ≤ (k : Int) + 1 := by omega
          have t1 : ((k : Int) + 1).toNat = k + 1 := by omega
          have v1 : IntKind.i64.wrap ((k : Int) + 1) = (k : Int) + 1 := by rw [IntKind.wrap_i64]; omega
          have w1 : (k : Int) < (i : Int) - 1 := by omega
          have HE := Lib.hid e2
          have HPL := Lib.hid hPl
          have HROW2 := Lib.hid hr
          have HG2 := Lib.hid hg
          clear hy e2 hP hR hPl hr hg hM
          rw [← hk1'] at t1
          have e1' : (k : Int) + 1 = (k1 : Int) := by omega
          have z1' : (k1 : Int) < n := by omega
          have e3' : (k1 : Int) - 1 = (k : Int) := by omega
          have e4' : k1 - 1 = k := by omega
          clear z1 q1
          have hne : k ≠ k1 := by omega
          have HK1 := Lib.hid hk1'
          clear hk1'
          go_wp2_with fail
          go_region
          all_goals go_wp2
          go_roundw
          case rel =>
            have hx := HROW2.out.swap encTdr_len (i := k) (j := k1) (by simp; have := HPL.out; omega) (by simp; have := HPL.out; have := HK1.out; omega) y x 1
            rw [HK1.out] at hx
            rw [show (((P ++ x :: y :: R).set k y).set (k + 1) x) = P ++ y :: x :: R by rw [← HPL.out]; exact zset_pair' P R x y y x] at hx
            rw [← HK1.out] at hx
            exact ⟨k + 1, by omega, by omega, by go_num, by rw [← HE.out]; exact hx.1, ztrans HG2.out hx.2⟩
          case measure => simp [intOf]; omega
        · have w1 : ¬ (k : Int) < (i : Int) - 1 := by omega
          have hfin2 : X ++ B1.take (k - a) ++ x :: (B1.drop (k - a) ++ (B2 ++ Y)) = X ++ mrg (ltz cf) [x] B ++ Y := by
            rw [HF.out, List.take_of_length_le (by have := HL1.out; omega), List.drop_of_length_le (by have := HL1.out; omega)]; simp
          rw [hfin2] at hr
          have HR2 := Lib.hid hr
          have HG2 := Lib.hid hg
          clear hfin2 hr hg hM
          go_wp2
          (try simp only [Exit.inBlock, Exit.then])
          refine bodyPost_ret (results_none rfl _ _ _) rfl ?_
          exact ⟨rfl, by simpa using HR2.out, HG2.out⟩
set_option maxHeartbeats 4000000 in
set_option maxRecDepth 100000 in
theorem symMTdr_last (F : Nat) (cb : Array Value) (cf : Tdr → Tdr → Int) (Q : Tdr → Prop) (base g n cap a m b : Nat) (x : Tdr) (X A Y : List Tdr) (w : World)
    (eg : ∀ args w, (callFunc F args).run Tryz.prog w = .ok (.enter F args) w) (hcmp : CmpTdr F cb g cf Q w) (hW : Wk (ltz cf)) (hQx : Q x) (hQ : ∀ y ∈ A, Q y) (hA : Asc (ltz cf) A) (hA2 : A.length ≠ 1) (hA0 : 0 < A.length)
    (hrow : RowTdr base g n cap (X ++ A ++ x :: Y) w) (ha : X.length = a) (hm : a + A.length = m) (hb : b = m + 1) (hn : n ≤ 1000000000) :
    Calls Tryz.prog 295 #[.slice (some ⟨g, 0, none⟩) n cap, .int .i64 a, .int .i64 m, .int .i64 b, .func (.func F) #[] cb] w fun e w' => e = .returned (.tuple #[]) ∧ RowTdr base g n cap (X ++ mrg (ltz cf) A [x] ++ Y) w' ∧ w.grownBy w' (some g) := by
  have hlen : X.length + A.length + Y.length + 1 = n := by have := hrow.2; simp at this; omega
  have hbn : b ≤ n := by omega
  have ham : a < m := by omega
  have e0 : (((m : Int) - a) == 1) = false := by simp; omega
  have e1 : (b : Int) - m = 1 := by omega
  have HC := Lib.hid hcmp
  have HQ := Lib.hid hQ
  have HA := Lib.hid ha
  have HM := Lib.hid hm
  have HB := Lib.hid hb
  have HW := Lib.hid hW
  have HS := Lib.hid hA
  have HR := Lib.hid hrow
  have hmz : (m : Int) < n := by omega
  have hmb : m < b := by omega
  clear hcmp hQ hW hA hrow hlen ha hm hb hA2 hA0
  go_enter Tryz.func295, Tryz.ntmps295
  go_wp2
  go_loopw [14, 15] (fun iv jv wr => ∃ i j : Nat, a ≤ i ∧ i ≤ j ∧ j ≤ m ∧ iv = .int .i64 i ∧ jv = .int .i64 j ∧ (i - a = 0 ∨ ∃ y, A[i - a - 1]? = some y ∧ ltz cf x y = false) ∧ (A.length ≤ j - a ∨ ∃ y, A[j - a]? = some y ∧ ltz cf x y = true) ∧ RowTdr base g n cap (X ++ A ++ x :: Y) wr ∧ w.grownBy wr (some g)) (fun iv jv _ => (intOf jv).toNat - (intOf iv).toNat)
  case atStart => exact ⟨a, m, by omega, by omega, by omega, rfl, rfl, .inl (by omega), .inl (by have := HM.out; omega), HR.out, zrefl _ _⟩
  case round =>
    obtain ⟨i, j, hmi, hij, hjb, rfl, rfl, hlo, hhi, hr, hg⟩ := hrel
    clear e1
    by_cases hlt : i < j
    · obtain ⟨k, hk, hk1, hk2⟩ := halfZ i j hlt
      obtain ⟨y, hy⟩ : ∃ y, A[k - a]? = some y := ⟨_, List.getElem?_eq_getElem (by have := HM.out; omega)⟩
      have hcx := zget_at (X ++ A) Y x (j := m) (by have := HM.out; have := HA.out; simp; omega)
      have hcy : (X ++ A ++ x :: Y)[k]? = some y := by
        rw [List.getElem?_append_left (by have := HM.out; have := HA.out; simp; omega), List.getElem?_append_right (by have := HA.out; omega), HA.out]
        exact hy
      have cx0 : wr.cell? ⟨g, m * 4, none⟩ = some (.int .i64 x.h) := hr.cell encTdr_len (i := 0) hcx rfl; have cx1 : wr.cell? ⟨g, m * 4 + 1, none⟩ = some (.int .i64 x.n) := hr.cell encTdr_len (i := 1) hcx rfl; have cx2 : wr.cell? ⟨g, m * 4 + 2, none⟩ = some (.int .i64 x.p) := hr.cell encTdr_len (i := 2) hcx rfl; have cx3 : wr.cell? ⟨g, m * 4 + 3, none⟩ = some (.int .i64 x.a) := hr.cell encTdr_len (i := 3) hcx rfl
      have cy0 : wr.cell? ⟨g, k * 4, none⟩ = some (.int .i64 y.h) := hr.cell encTdr_len (i := 0) hcy rfl; have cy1 : wr.cell? ⟨g, k * 4 + 1, none⟩ = some (.int .i64 y.n) := hr.cell encTdr_len (i := 1) hcy rfl; have cy2 : wr.cell? ⟨g, k * 4 + 2, none⟩ = some (.int .i64 y.p) := hr.cell encTdr_len (i := 2) hcy rfl; have cy3 : wr.cell? ⟨g, k * 4 + 3, none⟩ = some (.int .i64 y.a) := hr.cell encTdr_len (i := 3) hcy rfl
      have hc := fun W (hW : Below wr.heap.size wr W) => HC.out W (ztrans hg (zbelow hW _)) x y hQx (HQ.out y (List.mem_of_getElem? hy))
      obtain ⟨c, hcf⟩ : ∃ c, cf x y = c := ⟨_, rfl⟩
      simp only [hcf, vTdr] at hc
      have HCC := Lib.hid hc
      have cx0u := up_cell cx0; have cx1u := up_cell cx1; have cx2u := up_cell cx2; have cx3u := up_cell cx3
      have cy0u := up_cell cy0; have cy1u := up_cell cy1; have cy2u := up_cell cy2; have cy3u := up_cell cy3
      clear hc hcx hcy
      have hkz : (k : Int) < n := by omega
      have HCF := Lib.hid hcf
      have HLO := Lib.hid hlo
      have HHI := Lib.hid hhi
      have HY := Lib.hid hy
      have HROW := Lib.hid hr
      have HG := Lib.hid hg
      clear hcf hlo hhi hy hr hg
      rcases (show decide (c < 0) = true ∨ decide (c < 0) = false by cases decide (c < 0) <;> simp) with hneg | hneg
      all_goals
        go_upto_region 17 with fail
        (refine wp_region_up (by kernel_rfl) (by kernel_rfl) ?_); (repeat (go_big_quiet_step (((go_at_fn F; refine (HCC.out _ (Subtype.property _)).mono ?_; exact fun _ _ hh => ⟨hh.1, ⟨_, bup (Subtype.property _) hh.2⟩, rfl⟩))))); (refine wpQuiet_nil ?_); (rintro w2 ⟨⟨_, hb2⟩, rfl⟩)
        go_wp2
        go_roundw
        case rel => first
          | exact ⟨k + 1, j, by omega, by omega, by omega, by go_num, rfl, .inr ⟨y, by rw [show k + 1 - a - 1 = k - a by omega]; exact HY.out, by unfold ltz; rw [HCF.out]; first | exact hneg | exact decide_eq_false (by omega)⟩, HHI.out, HROW.out.below hb2, ztrans HG.out (zbelow hb2 _)⟩
          | exact ⟨i, k, by omega, by omega, by omega, rfl, rfl, HLO.out, .inr ⟨y, HY.out, by unfold ltz; rw [HCF.out]; first | exact hneg | exact decide_eq_true hneg⟩, HROW.out.below hb2, ztrans HG.out (zbelow hb2 _)⟩
        case measure => simp [intOf]; omega
    · obtain rfl : i = j := by omega
      have h1 := asc_loqZ HW.out HS.out hlo
      have h2 := asc_hiqZ HW.out HS.out hhi
      obtain ⟨A1, hA1⟩ : ∃ A1, A.take (i - a) = A1 := ⟨_, rfl⟩
      obtain ⟨A2, hA2⟩ : ∃ A2, A.drop (i - a) = A2 := ⟨_, rfl⟩
      have hAA : A = A1 ++ A2 := by rw [← hA1, ← hA2, List.take_append_drop]
      have hl1 : A1.length = i - a := by rw [← hA1, List.length_take]; have := HM.out; omega
      have hl2 : A2.length = m - i := by rw [← hA2, List.length_drop]; have := HM.out; omega
      rw [hA1] at h1
      rw [hA2] at h2
      have hfin : X ++ mrg (ltz cf) A [x] ++ Y = X ++ A1 ++ x :: (A2 ++ Y) := by rw [hAA, mrg_put_backZ h1 h2]; simp
      rw [hAA] at hr
      have HF := Lib.hid hfin
      have HL1 := Lib.hid hl1
      have HL2 := Lib.hid hl2
      have HROW := Lib.hid hr
      have HG := Lib.hid hg
      clear h1 h2 hA1 hA2 hAA hl1 hl2 hfin hr hg hlo hhi
      go_wp2
      go_loopw [17] (fun kv wr => ∃ k : Nat, i ≤ k ∧ k ≤ m ∧ kv = .int .i64 k ∧ RowTdr base g n cap (X ++ A1 ++ A2.take (k - i) ++ x :: (A2.drop (k - i) ++ Y)) wr ∧ w.grownBy wr (some g)) (fun kv _ => (intOf kv).toNat)
      case atStart => exact ⟨m, by omega, by omega, rfl, by rw [List.take_of_length_le (by have := HL2.out; omega), List.drop_of_length_le (by have := HL2.out; omega)]; simpa using HROW.out, HG.out⟩
      case round =>
        obtain ⟨k, hk1, hk2, rfl, hr, hg⟩ := hrel
        by_cases hki : i < k
        · obtain ⟨kp, rfl⟩ : ∃ kp, k = kp + 1 := ⟨k - 1, by omega⟩
          obtain ⟨y, hy⟩ : ∃ y, A2[kp - i]? = some y := ⟨_, List.getElem?_eq_getElem (by have := HL2.out; omega)⟩
          obtain ⟨P, hP⟩ : ∃ P, X ++ A1 ++ A2.take (kp - i) = P := ⟨_, rfl⟩
          obtain ⟨R, hR⟩ : ∃ R, A2.drop (kp - i + 1) ++ Y = R := ⟨_, rfl⟩
          have hPl : P.length = kp := by rw [← hP, List.length_append, List.length_append, List.length_take]; have := HA.out; have := HL1.out; have := HL2.out; omega
          have e2 : P ++ x :: y :: R = X ++ A1 ++ A2.take (kp - i) ++ x :: (A2.drop (kp - i) ++ Y) := by
            rw [← hP, ← hR, drop_cons hy]; simp
          have e3 : X ++ A1 ++ A2.take (kp + 1 - i) ++ x :: (A2.drop (kp + 1 - i) ++ Y) = P ++ y :: x :: R := by
            rw [← hP, ← hR, show kp + 1 - i = kp - i + 1 by omega, take_snocZ hy]; simp
          rw [e3] at hr
          have hck := hPl ▸ (zget_pair P R y x).1
          have hck1 := hPl ▸ (zget_pair P R y x).2
          obtain ⟨k1, hk1'⟩ : ∃ k1, k1 = kp + 1 := ⟨_, rfl⟩
          rw [← hk1'] at hck1
          have ck0 : wr.cell? ⟨g, kp * 4, none⟩ = some (.int .i64 y.h) := hr.cell encTdr_len (i := 0) hck rfl; have ck1 : wr.cell? ⟨g, kp * 4 + 1, none⟩ = some (.int .i64 y.n) := hr.cell encTdr_len (i := 1) hck rfl; have ck2 : wr.cell? ⟨g, kp * 4 + 2, none⟩ = some (.int .i64 y.p) := hr.cell encTdr_len (i := 2) hck rfl; have ck3 : wr.cell? ⟨g, kp * 4 + 3, none⟩ = some (.int .i64 y.a) := hr.cell encTdr_len (i := 3) hck rfl
          have cl0 : wr.cell? ⟨g, k1 * 4, none⟩ = some (.int .i64 x.h) := hr.cell encTdr_len (i := 0) hck1 rfl; have cl1 : wr.cell? ⟨g, k1 * 4 + 1, none⟩ = some (.int .i64 x.n) := hr.cell encTdr_len (i := 1) hck1 rfl; have cl2 : wr.cell? ⟨g, k1 * 4 + 2, none⟩ = some (.int .i64 x.p) := hr.cell encTdr_len (i := 2) hck1 rfl; have cl3 : wr.cell? ⟨g, k1 * 4 + 3, none⟩ = some (.int .i64 x.a) := hr.cell encTdr_len (i := 3) hck1 rfl
          have fr := fun o => hr.fro o
          clear hck hck1
          have z1 : (kp : Int) + 1 < n := by omega
          have z0 : (kp : Int) < n := by omega
          have q1 : (0 : Int) ≤ (kp : Int) + 1 := by omega
          have t1 : ((kp : Int) + 1).toNat = kp + 1 := by omega
          have v1 : IntKind.i64.wrap (kp : Int) = (kp : Int) := by rw [IntKind.wrap_i64]; omega
          have w1 : (i : Int) < (kp : Int) + 1 := by omega
          have HE := Lib.hid e2
          have HPL := Lib.hid hPl
          have HROW2 := Lib.hid hr
          have HG2 := Lib.hid hg
          clear hy e2 e3 hP hR hPl hr hg
          rw [← hk1'] at t1
          have e1' : (kp : Int) + 1 = (k1 : Int) := by omega
          have z1' : (k1 : Int) < n := by omega
          have e3' : (k1 : Int) - 1 = (kp : Int) := by omega
          have e4' : k1 - 1 = kp := by omega
          clear z1 q1
          have hne : k1 ≠ kp := by omega
          have HK1 := Lib.hid hk1'
          clear hk1'
          go_wp2_with fail
          go_region
          all_goals go_wp2
          go_roundw
          case rel =>
            have hx := HROW2.out.nbr encTdr_len 1 HPL.out HK1.out
            exact ⟨kp, by omega, by omega, by first | rfl | go_num, by rw [← HE.out]; exact hx.1, ztrans HG2.out hx.2⟩
          case measure => simp [intOf]
        · have w1 : ¬ (i : Int) < (k : Int) := by omega
          have hfin2 : X ++ A1 ++ A2.take (k - i) ++ x :: (A2.drop (k - i) ++ Y) = X ++ mrg (ltz cf) A [x] ++ Y := by
            rw [HF.out, show k - i = 0 by omega]; simp
          rw [hfin2] at hr
          have HR2 := Lib.hid hr
          have HG2 := Lib.hid hg
          clear hfin2 hr hg
          go_wp2
          (try simp only [Exit.inBlock, Exit.then])
          refine bodyPost_ret (results_none rfl _ _ _) rfl ?_
          exact ⟨rfl, by simpa using HR2.out, HG2.out⟩
theorem mrg_cutZ {α : Type} {lt : α → α → Bool} (H : Wk lt) {A B : List α} (hA : Asc lt A) (hB : Asc lt B) {i j : Nat}
    (h1 : i = 0 ∨ B.length ≤ j ∨ ∃ x y, A[i - 1]? = some x ∧ B[j]? = some y ∧ lt y x = false) (h2 : A.length ≤ i ∨ j = 0 ∨ ∃ x y, A[i]? = some x ∧ B[j - 1]? = some y ∧ lt y x = true) :
    mrg lt A B = mrg lt (A.take i) (B.take j) ++ mrg lt (A.drop i) (B.drop j) := by
  have := mrg_append (lt := lt) (A.take i) (B.take j) (A2 := A.drop i) (B2 := B.drop j) (fun x hx y hy => by
    obtain ⟨k, hk, hk2⟩ := mem_takeqZ hx
    obtain ⟨l, hl, hl2⟩ := mem_dropqZ hy
    rcases h1 with h1 | h1 | ⟨u, v, hu, hv, huv⟩
    · omega
    · have := (List.getElem?_eq_some_iff.1 hl2).1; omega
    · exact H.tr _ _ _ (H.tr _ _ _ (asc_getZ H hB hl hv hl2) huv) (asc_getZ H hA (show k ≤ i - 1 by omega) hk2 hu)) (fun x hx y hy => by
    obtain ⟨k, hk, hk2⟩ := mem_dropqZ hx
    obtain ⟨l, hl, hl2⟩ := mem_takeqZ hy
    rcases h2 with h2 | h2 | ⟨u, v, hu, hv, huv⟩
    · have := (List.getElem?_eq_some_iff.1 hk2).1; omega
    · omega
    · exact H.lt_le (H.le_lt (asc_getZ H hB (show l ≤ j - 1 by omega) hl2 hv) huv) (asc_getZ H hA hk hu hk2))
  rw [List.take_append_drop, List.take_append_drop] at this
  exact this
theorem mrg_disjZ {α : Type} {lt : α → α → Bool} {A B : List α} (h : A = [] ∨ B = []) : mrg lt A B = A ++ B := by
  rcases h with rfl | rfl
  · rw [mrg_nil_l]; rfl
  · rw [mrg_nil_r]; simp
/-- what symMergeCmpFunc does with parts that have at most N elements together -/
def SymMTdr (F : Nat) (cb : Array Value) (cf : Tdr → Tdr → Int) (Q : Tdr → Prop) (base g n cap N : Nat) : Prop :=
    ∀ (a m b : Nat) (X A B Y : List Tdr) (w : World), b - a ≤ N → CmpTdr F cb g cf Q w → (∀ y ∈ A, Q y) → (∀ y ∈ B, Q y) → Asc (ltz cf) A → Asc (ltz cf) B → 0 < A.length → 0 < B.length →
    RowTdr base g n cap (X ++ A ++ B ++ Y) w → X.length = a → a + A.length = m → m + B.length = b →
    Calls Tryz.prog 295 #[.slice (some ⟨g, 0, none⟩) n cap, .int .i64 a, .int .i64 m, .int .i64 b, .func (.func F) #[] cb] w fun e w' => e = .returned (.tuple #[]) ∧ RowTdr base g n cap (X ++ mrg (ltz cf) A B ++ Y) w' ∧ w.grownBy w' (some g)
set_option maxHeartbeats 8000000 in
set_option maxRecDepth 100000 in
theorem symMTdr_step (F : Nat) (cb : Array Value) (cf : Tdr → Tdr → Int) (Q : Tdr → Prop) (base g n cap N : Nat) (eg : ∀ args w, (callFunc F args).run Tryz.prog w = .ok (.enter F args) w) (hW : Wk (ltz cf)) (hn : n ≤ 1000000000) (ih : SymMTdr F cb cf Q base g n cap N)
    (a m b : Nat) (X A B Y : List Tdr) (w : World) (hN : b - a ≤ N + 1) (hcmp : CmpTdr F cb g cf Q w) (hQA : ∀ y ∈ A, Q y) (hQB : ∀ y ∈ B, Q y) (hA : Asc (ltz cf) A) (hB : Asc (ltz cf) B) (hA0 : 0 < A.length) (hB0 : 0 < B.length)
    (hrow : RowTdr base g n cap (X ++ A ++ B ++ Y) w) (ha : X.length = a) (hm : a + A.length = m) (hb : m + B.length = b) :
    Calls Tryz.prog 295 #[.slice (some ⟨g, 0, none⟩) n cap, .int .i64 a, .int .i64 m, .int .i64 b, .func (.func F) #[] cb] w fun e w' => e = .returned (.tuple #[]) ∧ RowTdr base g n cap (X ++ mrg (ltz cf) A B ++ Y) w' ∧ w.grownBy w' (some g) := by
    by_cases hA1 : A.length = 1
    · obtain ⟨x, rfl⟩ := List.length_eq_one_iff.1 hA1
      exact symMTdr_one F cb cf Q base g n cap a m b x X B Y w eg hcmp hW (hQA x (by simp)) hQB hB (by simpa using hrow) ha (by simp at hm; omega) hb hn
    by_cases hB1 : B.length = 1
    · obtain ⟨x, rfl⟩ := List.length_eq_one_iff.1 hB1
      exact symMTdr_last F cb cf Q base g n cap a m b x X A Y w eg hcmp hW (hQB x (by simp)) hQA hA hA1 hA0 (by simpa using hrow) ha hm (by simp at hb; omega) hn
    have hlen : X.length + A.length + B.length + Y.length = n := by have := hrow.2; simp at this; omega
    have hbn : b ≤ n := by omega
    have ham : a + 2 ≤ m := by omega
    have hmb : m + 2 ≤ b := by omega
    have e0 : (((m : Int) - a) == 1) = false := by simp; omega
    have e1 : (((b : Int) - m) == 1) = false := by simp; omega
    obtain ⟨mid, hmid, hmd1, hmd2⟩ : ∃ k : Nat, ((a : Int) + (b : Int)) / 2 = (k : Int) ∧ 2 * k ≤ a + b ∧ a + b ≤ 2 * k + 1 := ⟨(a + b) / 2, by omega, by omega, by omega⟩
    have HW := Lib.hid hW
    have HC := Lib.hid hcmp
    have HIH := Lib.hid ih
    have HQA := Lib.hid hQA
    have HQB := Lib.hid hQB
    have HA := Lib.hid ha
    have HM := Lib.hid hm
    have HB := Lib.hid hb
    have HSA := Lib.hid hA
    have HSB := Lib.hid hB
    have HR := Lib.hid hrow
    clear hcmp ih hW hQA hQB hA hB hrow hlen ha hm hb hA0 hB0 hA1 hB1
    obtain ⟨lo, hi, hlo1, hlo2, hhi1, hhi2, hside, hsl, hsh⟩ : ∃ lo hi : Nat, a ≤ lo ∧ lo ≤ hi ∧ hi ≤ m ∧ hi ≤ mid ∧ (mid + m ≤ lo + b ∧ mid + m - lo ≤ b) ∧ (if mid < m then (mid : Int) + m - b = lo else a = lo) ∧ (if mid < m then mid = hi else m = hi) := by
      by_cases h : mid < m
      · refine ⟨mid + m - b, mid, by omega, by omega, by omega, by omega, by omega, ?_, ?_⟩
        · rw [if_pos h]; omega
        · rw [if_pos h]
      · refine ⟨a, m, by omega, by omega, by omega, by omega, by omega, ?_, ?_⟩
        · rw [if_neg h]
        · rw [if_neg h]
    have hcase : (lo = a ∧ hi = m) ∨ (mid + m = lo + b ∧ hi = mid) := by
      by_cases h : mid < m
      · rw [if_pos h] at hsl hsh; omega
      · rw [if_neg h] at hsl hsh; omega
    have HCASE := Lib.hid hcase
    have HSL := Lib.hid hsl
    have HSH := Lib.hid hsh
    obtain ⟨nn, hnn⟩ : ∃ nn : Nat, nn = mid + m := ⟨_, rfl⟩
    obtain ⟨pp, hpp⟩ : ∃ pp : Nat, pp + 1 = nn := ⟨nn - 1, by omega⟩
    have en : (mid : Int) + m = nn := by omega
    have ep : (nn : Int) - 1 = pp := by omega
    have HNN := Lib.hid hnn
    have HPP := Lib.hid hpp
    clear hcase hsl hsh hnn hpp
    go_enter Tryz.func295, Tryz.ntmps295
    go_upto_if 140 with fail
    go_cut [20, 21] from 138 to 146 (fun s20 s21 wx => s20 = .int .i64 lo ∧ s21 = .int .i64 hi ∧ wx = w)
    case first =>
      by_cases hmm : mid < m
      · have hmz : (mid : Int) < (m : Int) := by omega
        have h1 := HSL.out
        have h2 := HSH.out
        rw [if_pos hmm] at h1 h2
        have H1 := Lib.hid (show (nn : Int) - b = lo by have := HNN.out; omega)
        have H2 := Lib.hid h2
        clear h1 h2
        go_wp2
        go_meet
        rw [H1.out, H2.out]
        exact ⟨rfl, rfl, rfl⟩
      · have hmz : ¬ (mid : Int) < (m : Int) := by omega
        have h1 := HSL.out
        have h2 := HSH.out
        rw [if_neg hmm] at h1 h2
        have H1 := Lib.hid h1
        have H2 := Lib.hid h2
        clear h1 h2
        go_wp2
        go_meet
        rw [H1.out, H2.out]
        exact ⟨rfl, rfl, rfl⟩
    case rest =>
      obtain ⟨rfl, rfl, hwc⟩ := hcut
      have hwc := hwc.symm
      subst hwc
      have hlz : (lo : Int) ≤ n := by omega
      go_wp2
      go_loopw [20, 21] (fun sv rv wr => ∃ s r : Nat, lo ≤ s ∧ s ≤ r ∧ r ≤ hi ∧ sv = .int .i64 s ∧ rv = .int .i64 r ∧ (s = lo ∨ ∃ x y, A[s - a - 1]? = some x ∧ B[mid - s]? = some y ∧ ltz cf y x = false) ∧ (r = hi ∨ ∃ x y, A[r - a]? = some x ∧ B[mid - r - 1]? = some y ∧ ltz cf y x = true) ∧ RowTdr base g n cap (X ++ A ++ B ++ Y) wr ∧ w.grownBy wr (some g)) (fun sv rv _ => (intOf rv).toNat - (intOf sv).toNat)
      case atStart => exact ⟨lo, hi, Nat.le_refl _, hlo2, Nat.le_refl _, rfl, rfl, .inl rfl, .inl rfl, HR.out, zrefl _ _⟩
      case round =>
        obtain ⟨s, r, hs1, hs2, hs3, rfl, rfl, hlo, hhi, hr, hg⟩ := hrel
        have hXA := HA.out
        have hAm := HM.out
        have hBb := HB.out
        have hnn := HNN.out
        have hpp := HPP.out
        by_cases hlt : s < r
        · obtain ⟨k, hk, hk1, hk2⟩ := halfZ s r hlt
          obtain ⟨x, hx⟩ : ∃ x, A[k - a]? = some x := ⟨_, List.getElem?_eq_getElem (by omega)⟩
          obtain ⟨y, hy⟩ : ∃ y, B[mid - k - 1]? = some y := ⟨_, List.getElem?_eq_getElem (by omega)⟩
          obtain ⟨q, hq⟩ : ∃ q, q = pp - k := ⟨_, rfl⟩
          have eq1 : (pp : Int) - k = q := by omega
          have hcx : (X ++ A ++ B ++ Y)[k]? = some x := by
            rw [List.append_assoc, List.getElem?_append_left (by simp; omega), List.getElem?_append_right (by omega), hXA]
            exact hx
          have hcy : (X ++ A ++ B ++ Y)[q]? = some y := by
            rw [List.getElem?_append_left (by simp; omega), List.getElem?_append_right (by simp; omega), List.length_append, show q - (X.length + A.length) = mid - k - 1 by omega]
            exact hy
          have cx0 : wr.cell? ⟨g, k * 4, none⟩ = some (.int .i64 x.h) := hr.cell encTdr_len (i := 0) hcx rfl; have cx1 : wr.cell? ⟨g, k * 4 + 1, none⟩ = some (.int .i64 x.n) := hr.cell encTdr_len (i := 1) hcx rfl; have cx2 : wr.cell? ⟨g, k * 4 + 2, none⟩ = some (.int .i64 x.p) := hr.cell encTdr_len (i := 2) hcx rfl; have cx3 : wr.cell? ⟨g, k * 4 + 3, none⟩ = some (.int .i64 x.a) := hr.cell encTdr_len (i := 3) hcx rfl
          have cy0 : wr.cell? ⟨g, q * 4, none⟩ = some (.int .i64 y.h) := hr.cell encTdr_len (i := 0) hcy rfl; have cy1 : wr.cell? ⟨g, q * 4 + 1, none⟩ = some (.int .i64 y.n) := hr.cell encTdr_len (i := 1) hcy rfl; have cy2 : wr.cell? ⟨g, q * 4 + 2, none⟩ = some (.int .i64 y.p) := hr.cell encTdr_len (i := 2) hcy rfl; have cy3 : wr.cell? ⟨g, q * 4 + 3, none⟩ = some (.int .i64 y.a) := hr.cell encTdr_len (i := 3) hcy rfl
          have hc := fun W (hW : Below wr.heap.size wr W) => HC.out W (ztrans hg (zbelow hW _)) y x (HQB.out y (List.mem_of_getElem? hy)) (HQA.out x (List.mem_of_getElem? hx))
          obtain ⟨c, hcf⟩ : ∃ c, cf y x = c := ⟨_, rfl⟩
          simp only [hcf, vTdr] at hc
          have HCC := Lib.hid hc
          have cx0u := up_cell cx0; have cx1u := up_cell cx1; have cx2u := up_cell cx2; have cx3u := up_cell cx3
          have cy0u := up_cell cy0; have cy1u := up_cell cy1; have cy2u := up_cell cy2; have cy3u := up_cell cy3
          clear hc hcx hcy
          have hkz : (k : Int) < n := by omega
          have hqz : (q : Int) < n := by omega
          have HCF := Lib.hid hcf
          have HLO := Lib.hid hlo
          have HHI := Lib.hid hhi
          have HX := Lib.hid hx
          have HY := Lib.hid hy
          have HROW := Lib.hid hr
          have HG := Lib.hid hg
          clear hcf hlo hhi hx hy hr hg hXA hAm hBb hnn hpp hq
          rcases (show decide (c < 0) = true ∨ decide (c < 0) = false by cases decide (c < 0) <;> simp) with hneg | hneg
          all_goals
            go_upto_region 35 with fail
            (refine wp_region_up (by kernel_rfl) (by kernel_rfl) ?_); (repeat (go_big_quiet_step (((go_at_fn F; refine (HCC.out _ (Subtype.property _)).mono ?_; exact fun _ _ hh => ⟨hh.1, ⟨_, bup (Subtype.property _) hh.2⟩, rfl⟩))))); (refine wpQuiet_nil ?_); (rintro w2 ⟨⟨_, hb2⟩, rfl⟩)
            go_wp2
            go_roundw
            case rel => first
              | exact ⟨k + 1, r, by omega, by omega, by omega, by go_num, rfl, .inr ⟨x, y, by rw [show k + 1 - a - 1 = k - a by omega]; exact HX.out, by rw [show mid - (k + 1) = mid - k - 1 by omega]; exact HY.out, by unfold ltz; rw [HCF.out]; exact hneg⟩, HHI.out, HROW.out.below hb2, ztrans HG.out (zbelow hb2 _)⟩
              | exact ⟨s, k, by omega, by omega, by omega, rfl, rfl, HLO.out, .inr ⟨x, y, HX.out, HY.out, by unfold ltz; rw [HCF.out]; exact hneg⟩, HROW.out.below hb2, ztrans HG.out (zbelow hb2 _)⟩
            case measure => simp [intOf]; omega
        · obtain rfl : s = r := by omega
          obtain ⟨q, hq⟩ : ∃ q, q = nn - s := ⟨_, rfl⟩
          have eq1 : (nn : Int) - s = q := by omega
          have hmq : m ≤ q := by omega
          have hqb : q ≤ b := by omega
          have hmidq : mid ≤ q := by omega
          have hsm : s ≤ m := by omega
          have hsmid : s ≤ mid := by omega
          have hcut := mrg_cutZ HW.out HSA.out HSB.out (i := s - a) (j := mid - s)
            (by
              rcases HCASE.out with h | h
              · rcases hlo with h' | h'
                · exact .inl (by omega)
                · exact .inr (.inr h')
              · rcases hlo with h' | h'
                · exact .inr (.inl (by omega))
                · exact .inr (.inr h'))
            (by
              rcases HCASE.out with h | h
              · rcases hhi with h' | h'
                · exact .inl (by omega)
                · exact .inr (.inr h')
              · rcases hhi with h' | h'
                · exact .inr (.inl (by omega))
                · exact .inr (.inr h'))
          obtain ⟨A1, hA1⟩ : ∃ A1, A.take (s - a) = A1 := ⟨_, rfl⟩
          obtain ⟨A2, hA2⟩ : ∃ A2, A.drop (s - a) = A2 := ⟨_, rfl⟩
          obtain ⟨B1, hB1⟩ : ∃ B1, B.take (mid - s) = B1 := ⟨_, rfl⟩
          obtain ⟨B2, hB2⟩ : ∃ B2, B.drop (mid - s) = B2 := ⟨_, rfl⟩
          have hAA : A = A1 ++ A2 := by rw [← hA1, ← hA2, List.take_append_drop]
          have hBB : B = B1 ++ B2 := by rw [← hB1, ← hB2, List.take_append_drop]
          have la1 : A1.length = s - a := by rw [← hA1, List.length_take]; omega
          have la2 : A2.length = m - s := by rw [← hA2, List.length_drop]; omega
          have lb1 : B1.length = mid - s := by rw [← hB1, List.length_take]; omega
          have lb2 : B2.length = b - q := by rw [← hB2, List.length_drop]; omega
          rw [hA1, hA2, hB1, hB2] at hcut
          have sA := HSA.out
          have sB := HSB.out
          have qA := HQA.out
          have qB := HQB.out
          rw [hAA] at sA qA hr
          rw [hBB] at sB qB hr
          have hQ := Lib.hid hq
          have HCUT := Lib.hid hcut
          have LA1 := Lib.hid la1
          have LA2 := Lib.hid la2
          have LB1 := Lib.hid lb1
          have LB2 := Lib.hid lb2
          have SA := Lib.hid (asc_append.1 sA)
          have SB := Lib.hid (asc_append.1 sB)
          have QA := Lib.hid qA
          have QB := Lib.hid qB
          have HROW := Lib.hid hr
          have HG := Lib.hid hg
          clear hlo hhi hr hg hXA hAm hBb hnn hpp hq hcut hA1 hA2 hB1 hB2 hAA hBB la1 la2 lb1 lb2 sA sB qA qB
          go_upto_region 39 with fail
          go_cut [185] from 178 to 185 (fun s185 wx => s185 = .bool (decide (s < m ∧ m < q)) ∧ wx = wr)
          case first =>
            by_cases h1 : s < m
            · by_cases h2 : m < q
              all_goals
                go_wp2
                go_meet
                exact ⟨by simp [h1, h2], rfl⟩
            · go_wp2
              go_meet
              exact ⟨by simp [h1], rfl⟩
          case rest =>
            obtain ⟨rfl, hwc⟩ := hcut
            have hwc := hwc.symm
            subst hwc
            go_upto_if 185 with fail
            go_cut [] from 178 to 191 (fun wx => RowTdr base g n cap (X ++ A1 ++ B1 ++ A2 ++ B2 ++ Y) wx ∧ w.grownBy wx (some g))
            case first =>
              by_cases h1 : s < m ∧ m < q
              · have hd : decide (s < m ∧ m < q) = true := by simpa using h1
                have hc := fun W (hW : W = wr) => rotTdr_any (.func (.func F) #[] cb) base g n cap s m q (X ++ A1) A2 B1 (B2 ++ Y) W (by rw [hW]; simpa using HROW.out) (by have := HA.out; have := LA1.out; simp; omega) (by have := LA2.out; omega) (by have := LB1.out; have := HNN.out; have := hQ.out; omega) (by have := LA2.out; omega) (by have := LB1.out; have := HNN.out; have := hQ.out; omega) hn
                go_wp2_with (go_at_call 329; refine (hc _ rfl).mono ?_; rintro e w2 ⟨rfl, hr2, hg2⟩)
                go_meet
                exact ⟨by simpa using hr2, ztrans HG.out hg2⟩
              · have hd : decide (s < m ∧ m < q) = false := by simpa using h1
                have hdis : A2 = [] ∨ B1 = [] := by
                  rcases Nat.lt_or_ge s m with h | h
                  · exact .inr (List.eq_nil_of_length_eq_zero (by have := LB1.out; have := HNN.out; have := hQ.out; omega))
                  · exact .inl (List.eq_nil_of_length_eq_zero (by have := LA2.out; omega))
                have HD := Lib.hid (show RowTdr base g n cap (X ++ A1 ++ B1 ++ A2 ++ B2 ++ Y) wr by
                  have := HROW.out
                  rcases hdis with h | h <;> rw [h] at this ⊢ <;> simpa using this)
                clear hdis
                go_wp2
                go_meet
                exact ⟨HD.out, HG.out⟩
            case rest =>
              obtain ⟨hr1, hg1⟩ := hcut
              have HROW1 := Lib.hid hr1
              have HG1 := Lib.hid hg1
              clear hr1 hg1 HROW HG
              go_upto_region 41 with fail
              go_cut [199] from 192 to 199 (fun s199 wx => s199 = .bool (decide (a < s ∧ s < mid)) ∧ wx = wc)
              case first =>
                by_cases h1 : a < s
                · by_cases h2 : s < mid
                  all_goals
                    go_wp2
                    go_meet
                    exact ⟨by simp [h1, h2], rfl⟩
                · go_wp2
                  go_meet
                  exact ⟨by simp [h1], rfl⟩
              case rest =>
                obtain ⟨rfl, hwc⟩ := hcut
                rw [← hwc] at HROW1 HG1
                clear hwc
                go_upto_if 199 with fail
                go_cut [] from 192 to 205 (fun wx => RowTdr base g n cap (X ++ mrg (ltz cf) A1 B1 ++ A2 ++ B2 ++ Y) wx ∧ w.grownBy wx (some g))
                case first =>
                  by_cases h1 : a < s ∧ s < mid
                  · have hd : decide (a < s ∧ s < mid) = true := by simpa using h1
                    have hc := fun W (hW : w.grownBy W (some g)) (hR : RowTdr base g n cap (X ++ A1 ++ B1 ++ A2 ++ B2 ++ Y) W) => HIH.out a s mid X A1 B1 (A2 ++ B2 ++ Y) W (by omega) (HC.out.on hW) (fun y hy => QA.out y (List.mem_append_left _ hy)) (fun y hy => QB.out y (List.mem_append_left _ hy)) SA.out.1 SB.out.1 (by have := LA1.out; omega) (by have := LB1.out; omega) (by simpa using hR) HA.out (by have := LA1.out; omega) (by have := LB1.out; omega)
                    go_wp2_with (go_at_call 295; refine (hc _ HG1.out HROW1.out).mono ?_; rintro e w2 ⟨rfl, hr2, hg2⟩)
                    go_meet
                    exact ⟨by simpa using hr2, ztrans HG1.out hg2⟩
                  · have hd : decide (a < s ∧ s < mid) = false := by simpa using h1
                    have hdis : mrg (ltz cf) A1 B1 = A1 ++ B1 := mrg_disjZ (by
                      rcases Nat.lt_or_ge a s with h | h
                      · exact .inr (List.eq_nil_of_length_eq_zero (by have := LB1.out; omega))
                      · exact .inl (List.eq_nil_of_length_eq_zero (by have := LA1.out; omega)))
                    have HD := Lib.hid hdis
                    clear hdis
                    go_wp2
                    go_meet
                    exact ⟨by rw [HD.out]; simpa using HROW1.out, HG1.out⟩
                case rest =>
                  obtain ⟨hr1, hg1⟩ := hcut
                  have HROW2 := Lib.hid hr1
                  have HG2 := Lib.hid hg1
                  have HFIN := Lib.hid (show X ++ mrg (ltz cf) A1 B1 ++ mrg (ltz cf) A2 B2 ++ Y = X ++ mrg (ltz cf) A B ++ Y by rw [HCUT.out]; simp)
                  clear hr1 hg1 HROW1 HG1
                  by_cases h1 : mid < q
                  · by_cases h2 : q < b
                    · have hc := fun W (hW : w.grownBy W (some g)) (hR : RowTdr base g n cap (X ++ mrg (ltz cf) A1 B1 ++ A2 ++ B2 ++ Y) W) => HIH.out mid q b (X ++ mrg (ltz cf) A1 B1) A2 B2 Y W (by omega) (HC.out.on hW) (fun y hy => QA.out y (List.mem_append_right _ hy)) (fun y hy => QB.out y (List.mem_append_right _ hy)) SA.out.2.1 SB.out.2.1 (by have := LA2.out; have := HNN.out; have := hQ.out; omega) (by have := LB2.out; omega) hR (by have := HA.out; have := LA1.out; have := LB1.out; rw [List.length_append, mrg_length]; omega) (by have := LA2.out; have := HNN.out; have := hQ.out; omega) (by have := LB2.out; omega)
                      go_wp2_with (go_at_call 295; refine (hc _ HG2.out HROW2.out).mono ?_; rintro e w2 ⟨rfl, hr2, hg2⟩)
                      go_end0
                      exact ⟨rfl, by rw [HFIN.out] at hr2; simpa using hr2, ztrans HG2.out hg2⟩
                    · have hdis := mrg_disjZ (lt := ltz cf) (A := A2) (B := B2) (.inr (List.eq_nil_of_length_eq_zero (by have := LB2.out; omega)))
                      have HR3 := Lib.hid (show RowTdr base g n cap (X ++ mrg (ltz cf) A B ++ Y) wc by rw [← HFIN.out, hdis]; simpa using HROW2.out)
                      clear hdis
                      go_wp2
                      go_end0
                      exact ⟨rfl, by simpa using HR3.out, HG2.out⟩
                  · have hdis := mrg_disjZ (lt := ltz cf) (A := A2) (B := B2) (.inl (List.eq_nil_of_length_eq_zero (by have := LA2.out; have := HNN.out; have := hQ.out; omega)))
                    have HR3 := Lib.hid (show RowTdr base g n cap (X ++ mrg (ltz cf) A B ++ Y) wc by rw [← HFIN.out, hdis]; simpa using HROW2.out)
                    clear hdis
                    go_wp2
                    go_end0
                    exact ⟨rfl, by simpa using HR3.out, HG2.out⟩
theorem symMTdr_any (F : Nat) (cb : Array Value) (cf : Tdr → Tdr → Int) (Q : Tdr → Prop) (base g n cap : Nat) (eg : ∀ args w, (callFunc F args).run Tryz.prog w = .ok (.enter F args) w) (hW : Wk (ltz cf)) (hn : n ≤ 1000000000) (N : Nat) : SymMTdr F cb cf Q base g n cap N := by
  induction N with
  | zero => intro a m b X A B Y w hN hcmp hQA hQB hA hB hA0 hB0 hrow ha hm hb; omega
  | succ N ih => exact fun a m b X A B Y w hN hcmp hQA hQB hA hB hA0 hB0 hrow ha hm hb => symMTdr_step F cb cf Q base g n cap N eg hW hn ih a m b X A B Y w hN hcmp hQA hQB hA hB hA0 hB0 hrow ha hm hb
section
variable {α : Type} {lt : α → α → Bool}
/-- L is D with its blocks of k elements sorted -/
inductive BlZ (lt : α → α → Bool) (k : Nat) : List α → List α → Prop
  | nil : BlZ lt k [] []
  | cons {d D L : List α} : d.length = k → BlZ lt k D L → BlZ lt k (d ++ D) (srt lt d ++ L)
theorem BlZ.len {k : Nat} {D L : List α} (h : BlZ lt k D L) : L.length = D.length := by
  induction h with
  | nil => rfl
  | cons hd _ ih => simp [srt_length, ih]
theorem BlZ.snoc {k : Nat} {D L d : List α} (h : BlZ lt k D L) (hd : d.length = k) : BlZ lt k (D ++ d) (L ++ srt lt d) := by
  induction h with
  | nil => simpa using BlZ.cons hd BlZ.nil
  | cons hd' _ ih => rw [List.append_assoc, List.append_assoc]; exact BlZ.cons hd' ih
theorem BlZ.split {k : Nat} {D L : List α} (h : BlZ lt k D L) (hk : 0 < k) : (D = [] ∧ L = []) ∨ ∃ d D' L', D = d ++ D' ∧ L = srt lt d ++ L' ∧ d.length = k ∧ BlZ lt k D' L' := by
  cases h with
  | nil => exact .inl ⟨rfl, rfl⟩
  | cons hd h => exact .inr ⟨_, _, _, rfl, rfl, hd, h⟩
theorem BlZ.two {k : Nat} {D L : List α} (h : BlZ lt k D L) (hk : 0 < k) {r : Nat} (hr : r < k) (h2 : 2 * k ≤ D.length + r) : ∃ d1 d2 D' L', D = d1 ++ d2 ++ D' ∧ L = srt lt d1 ++ srt lt d2 ++ L' ∧ d1.length = k ∧ d2.length = k ∧ BlZ lt k D' L' := by
  rcases h.split hk with ⟨rfl, rfl⟩ | ⟨d1, D1, L1, rfl, rfl, hd1, h1⟩
  · simp at h2; omega
  · rcases h1.split hk with ⟨rfl, rfl⟩ | ⟨d2, D2, L2, rfl, rfl, hd2, h3⟩
    · simp at h2; omega
    · exact ⟨d1, d2, D2, L2, by simp, by simp, hd1, hd2, h3⟩
theorem BlZ.one {k : Nat} {D L : List α} (h : BlZ lt k D L) (hk : 0 < k) {r : Nat} (h2 : D.length + r < 2 * k) : (D = [] ∧ L = []) ∨ (D.length = k ∧ L = srt lt D) := by
  rcases h.split hk with ⟨rfl, rfl⟩ | ⟨d1, D1, L1, rfl, rfl, hd1, h1⟩
  · exact .inl ⟨rfl, rfl⟩
  · rcases h1.split hk with ⟨rfl, rfl⟩ | ⟨d2, D2, L2, rfl, rfl, hd2, h3⟩
    · exact .inr (by simp [hd1])
    · simp at h2; omega
theorem BlZ.all (H : Wk lt) {k : Nat} {D L R : List α} (h : BlZ lt k D L) (hk : 0 < k) (h2 : D.length + R.length ≤ k) : L ++ srt lt R = srt lt (D ++ R) := by
  rcases h.split hk with ⟨rfl, rfl⟩ | ⟨d1, D1, L1, rfl, rfl, hd1, h1⟩
  · rfl
  · have hR : R = [] := List.eq_nil_of_length_eq_zero (by simp at h2; omega)
    rcases h1.split hk with ⟨rfl, rfl⟩ | ⟨d2, D2, L2, rfl, rfl, hd2, h3⟩
    · subst hR; simp [srt]
    · simp at h2; omega
end
set_option maxHeartbeats 8000000 in
set_option maxRecDepth 100000 in
theorem stableTdr_any (F : Nat) (cb : Array Value) (cf : Tdr → Tdr → Int) (Q : Tdr → Prop) (base g n cap : Nat) (D : List Tdr) (w : World)
    (eg : ∀ args w, (callFunc F args).run Tryz.prog w = .ok (.enter F args) w) (hcmp : CmpTdr F cb g cf Q w) (hW : Wk (ltz cf)) (hQ : ∀ x ∈ D, Q x)
    (hrow : RowTdr base g n cap D w) (hn : n ≤ 1000000000) :
    Calls Tryz.prog 263 #[.slice (some ⟨g, 0, none⟩) n cap, .int .i64 n, .func (.func F) #[] cb] w fun e w' => e = .returned (.tuple #[]) ∧ RowTdr base g n cap (srt (ltz cf) D) w' ∧ w.grownBy w' (some g) := by
  have hlen : D.length = n := hrow.2
  have HC := Lib.hid hcmp
  have HQ := Lib.hid hQ
  have HW := Lib.hid hW
  have HL := Lib.hid hlen
  have HR := Lib.hid hrow
  have HSY := Lib.hid (symMTdr_any F cb cf Q base g n cap eg hW hn n)
  clear hcmp hQ hW hrow hlen
  go_enter Tryz.func263, Tryz.ntmps263
  go_wp2
  go_loopw [7, 8] (fun av bv wr => ∃ (a : Nat) (P L R : List Tdr), av = .int .i64 a ∧ bv = .int .i64 (a + 20) ∧ a ≤ n ∧ BlZ (ltz cf) 20 P L ∧ P ++ R = D ∧ P.length = a ∧ RowTdr base g n cap (L ++ R) wr ∧ w.grownBy wr (some g)) (fun av _ _ => n - (intOf av).toNat)
  case atStart => exact ⟨0, [], [], D, rfl, rfl, by omega, .nil, rfl, rfl, HR.out, zrefl _ _⟩
  case round =>
    obtain ⟨a, P, L, R, rfl, rfl, han, hB, hD, hP, hr, hg⟩ := hrel
    have hPR : a + R.length = n := by have := HL.out; rw [← hD, List.length_append] at this; omega
    have hLl : L.length = a := by rw [hB.len]; exact hP
    by_cases hlt : a + 20 ≤ n
    · have hltz : (a : Int) + 20 ≤ n := by omega
      obtain ⟨d, R', hR', hd⟩ : ∃ d R', R = d ++ R' ∧ d.length = 20 := ⟨R.take 20, R.drop 20, (List.take_append_drop _ _).symm, by rw [List.length_take]; omega⟩
      rw [hR'] at hr hD
      have HB := Lib.hid (hB.snoc hd)
      have HD := Lib.hid (show (P ++ d) ++ R' = D by rw [List.append_assoc]; exact hD)
      have HP := Lib.hid (show (P ++ d).length = a + 20 by simp; omega)
      obtain ⟨b, hb⟩ : ∃ b : Nat, b = a + 20 := ⟨_, rfl⟩
      have hc := fun W (hW : w.grownBy W (some g)) (hR : RowTdr base g n cap (L ++ (d ++ R')) W) => insTdr_any F cb cf Q base g n cap a b L d R' W eg (HC.out.on hW) HW.out (fun x hx => HQ.out x (by rw [← HD.out]; simp [hx])) (by simpa using hR) hLl (by omega) hn
      have HROW := Lib.hid hr
      have HG := Lib.hid hg
      have ea : (a : Int) + 20 = (b : Int) := by omega
      have hbn : b ≤ n := by omega
      have hb20 : b + 20 ≤ 2000000000 := by omega
      have HBB := Lib.hid hb
      clear hr hg hR' hd hB hD hP hPR hLl hb
      go_wp2_with (go_at_call 294; refine (hc _ HG.out HROW.out).mono ?_; rintro e w2 ⟨rfl, hr2, hg2⟩)
      have HR2 := Lib.hid hr2
      have HG2 := Lib.hid (ztrans HG.out hg2)
      clear hr2 hg2 hc
      go_roundw
      case rel => exact ⟨b, P ++ d, L ++ srt (ltz cf) d, R', rfl, rfl, hbn, HB.out, HD.out, by rw [HBB.out]; exact HP.out, HR2.out, HG2.out⟩
      case measure => have := HBB.out; simp [intOf]; omega
    · have hltz : ¬ (a : Int) + 20 ≤ n := by omega
      have hc := fun W (hW : w.grownBy W (some g)) (hR : RowTdr base g n cap (L ++ R) W) => insTdr_any F cb cf Q base g n cap a n L R [] W eg (HC.out.on hW) HW.out (fun x hx => HQ.out x (by rw [← hD]; simp [hx])) (by simpa using hR) hLl hPR hn
      have HROW := Lib.hid hr
      have HG := Lib.hid hg
      have HB := Lib.hid hB
      have HD := Lib.hid hD
      have HRL := Lib.hid (show R.length < 20 by omega)
      clear hr hg hB hD hP hPR hLl
      go_wp2_with (go_at_call 294; refine (hc _ HG.out HROW.out).mono ?_; rintro e w2 ⟨rfl, hr2, hg2⟩)
      have HR2 := Lib.hid (show RowTdr base g n cap (L ++ srt (ltz cf) R) w2 by simpa using hr2)
      have HG2 := Lib.hid (ztrans HG.out hg2)
      clear hr2 hg2 hc HROW HG
      go_loopw [6, 7, 8, 9] (fun kv _ _ _ wr => ∃ (k : Nat) (P L R : List Tdr), kv = .int .i64 k ∧ 20 ≤ k ∧ k ≤ 4000000000 ∧ BlZ (ltz cf) k P L ∧ P ++ R = D ∧ R.length < k ∧ RowTdr base g n cap (L ++ srt (ltz cf) R) wr ∧ w.grownBy wr (some g)) (fun kv _ _ _ _ => n - (intOf kv).toNat)
      case atStart => exact ⟨20, P, L, R, rfl, by omega, by omega, HB.out, HD.out, HRL.out, HR2.out, HG2.out⟩
      case round =>
        clear HB HD HRL HR2 HG2 hlt hltz han
        obtain ⟨k, P, L, R, rfl, hk1, hk2, hB, hD, hRk, hr, hg⟩ := hrel
        have hPR : P.length + R.length = n := by have := HL.out; rw [← hD, List.length_append] at this; omega
        by_cases hkn : k < n
        · have hknz : (k : Int) < n := by omega
          obtain ⟨kk, hkk⟩ : ∃ kk : Nat, kk = 2 * k := ⟨_, rfl⟩
          have e2k : 2 * (k : Int) = (kk : Int) := by omega
          have ek2 : (k : Int) * 2 = (kk : Int) := by omega
          have hkkb : kk ≤ 2000000000 := by omega
          have HKK := Lib.hid hkk
          have HPR := Lib.hid hPR
          have HRK := Lib.hid hRk
          have HB := Lib.hid hB
          have HD := Lib.hid hD
          have HROW := Lib.hid hr
          have HG := Lib.hid hg
          clear hB hD hr hg hPR hkk hRk
          go_wp2
          go_loopw [7, 8] (fun av bv wr => ∃ (a : Nat) (E EL P' L' : List Tdr), av = .int .i64 a ∧ bv = .int .i64 ((a : Int) + kk) ∧ a ≤ n ∧ BlZ (ltz cf) kk E EL ∧ BlZ (ltz cf) k P' L' ∧ E ++ P' ++ R = D ∧ E.length = a ∧ RowTdr base g n cap (EL ++ L' ++ srt (ltz cf) R) wr ∧ w.grownBy wr (some g)) (fun av _ _ => n - (intOf av).toNat)
          case atStart => exact ⟨0, [], [], P, L, rfl, by go_num, by omega, .nil, HB.out, by simpa using HD.out, rfl, by simpa using HROW.out, HG.out⟩
          case round =>
            clear HB HD HROW HG HPR
            obtain ⟨a, E, EL, P', L', rfl, rfl, han, hE, hB, hD, hEa, hr, hg⟩ := hrel
            have hPR : a + P'.length + R.length = n := by have := HL.out; rw [← hD, List.length_append, List.length_append] at this; omega
            have hEL : EL.length = a := by rw [hE.len]; exact hEa
            obtain ⟨m, hm⟩ : ∃ m : Nat, m = a + k := ⟨_, rfl⟩
            have em : (a : Int) + k = (m : Int) := by omega
            have hkk := HKK.out
            have hRk := HRK.out
            by_cases hlt : a + kk ≤ n
            · obtain ⟨d1, d2, P2, L2, rfl, rfl, hd1, hd2, hB2⟩ := hB.two (by omega) hRk (by omega)
              obtain ⟨b, hb⟩ : ∃ b : Nat, b = a + kk := ⟨_, rfl⟩
              have eb : (a : Int) + kk = (b : Int) := by omega
              have hbn : b ≤ n := by omega
              have hbnz : (b : Int) ≤ n := by omega
              have hc := fun W (hW : w.grownBy W (some g)) (hR : RowTdr base g n cap (EL ++ (srt (ltz cf) d1 ++ srt (ltz cf) d2 ++ L2) ++ srt (ltz cf) R) W) => HSY.out a m b EL (srt (ltz cf) d1) (srt (ltz cf) d2) (L2 ++ srt (ltz cf) R) W (by omega) (HC.out.on hW) (fun y hy => HQ.out y (by rw [← hD]; simp [(srt_mem _ _).1 hy])) (fun y hy => HQ.out y (by rw [← hD]; simp [(srt_mem _ _).1 hy])) (srt_asc HW.out _) (srt_asc HW.out _) (by rw [srt_length]; omega) (by rw [srt_length]; omega) (by simpa using hR) hEL (by rw [srt_length]; omega) (by rw [srt_length]; omega)
              have HE := Lib.hid (hE.snoc (d := d1 ++ d2) (by simp; omega))
              have HSA := Lib.hid (srt_append HW.out d1 d2)
              have HB2 := Lib.hid hB2
              have HD := Lib.hid (show E ++ (d1 ++ d2) ++ P2 ++ R = D by rw [← hD]; simp)
              have HEb := Lib.hid (show (E ++ (d1 ++ d2)).length = b by simp; omega)
              have HROW := Lib.hid hr
              have HG := Lib.hid hg
              have HBB := Lib.hid hb
              clear hE hB2 hB hD hEa hr hg hPR hEL hd1 hd2 hb hm hkk hRk
              go_wp2_with (go_at_call 295; refine (hc _ HG.out HROW.out).mono ?_; rintro e w2 ⟨rfl, hr2, hg2⟩)
              have HR2 := Lib.hid hr2
              have HG2 := Lib.hid (ztrans HG.out hg2)
              clear hr2 hg2 hc
              go_roundw
              case rel => exact ⟨b, E ++ (d1 ++ d2), EL ++ srt (ltz cf) (d1 ++ d2), P2, L2, rfl, rfl, hbn, HE.out, HB2.out, HD.out, HEb.out, by rw [HSA.out]; simpa using HR2.out, HG2.out⟩
              case measure => have := HBB.out; have := HKK.out; simp [intOf]; omega
            · have hlt2 : ¬ (a : Int) + kk ≤ n := by omega
              rcases hB.one (by omega) (r := R.length) (by omega) with ⟨rfl, rfl⟩ | ⟨hPk, rfl⟩
              · have hmn : ¬ m < n := by simp at hPR; omega
                have hmnz : ¬ (m : Int) < n := by omega
                have HE := Lib.hid hE
                have HD := Lib.hid (show E ++ R = D by simpa using hD)
                have HRK2 := Lib.hid (show R.length < kk by omega)
                have HROW := Lib.hid (show RowTdr base g n cap (EL ++ srt (ltz cf) R) wr by simpa using hr)
                have HG := Lib.hid hg
                clear hE hD hr hg hPR hEL hEa hm hkk hRk hB
                go_wp2
                go_roundw
                case rel => exact ⟨kk, E, EL, R, rfl, by have := HKK.out; omega, by omega, HE.out, HD.out, HRK2.out, HROW.out, HG.out⟩
                case measure => have := HKK.out; simp [intOf]; omega
              · have HE := Lib.hid hE
                have HSA := Lib.hid (srt_append HW.out P' R)
                have HD := Lib.hid (show E ++ (P' ++ R) = D by rw [← hD]; simp)
                have HRK2 := Lib.hid (show (P' ++ R).length < kk by rw [List.length_append]; omega)
                have HROW := Lib.hid hr
                have HG := Lib.hid hg
                by_cases hmn : m < n
                · have hmnz : (m : Int) < n := by omega
                  have hc := fun W (hW : w.grownBy W (some g)) (hR : RowTdr base g n cap (EL ++ srt (ltz cf) P' ++ srt (ltz cf) R) W) => HSY.out a m n EL (srt (ltz cf) P') (srt (ltz cf) R) [] W (by omega) (HC.out.on hW) (fun y hy => HQ.out y (by rw [← hD]; simp [(srt_mem _ _).1 hy])) (fun y hy => HQ.out y (by rw [← hD]; simp [(srt_mem _ _).1 hy])) (srt_asc HW.out _) (srt_asc HW.out _) (by rw [srt_length]; omega) (by rw [srt_length]; omega) (by simpa using hR) hEL (by rw [srt_length]; omega) (by rw [srt_length]; omega)
                  clear hE hD hr hg hPR hEL hEa hm hkk hRk hB hPk
                  go_wp2_with (go_at_call 295; refine (hc _ HG.out HROW.out).mono ?_; rintro e w2 ⟨rfl, hr2, hg2⟩)
                  have HR2 := Lib.hid hr2
                  have HG2 := Lib.hid (ztrans HG.out hg2)
                  clear hr2 hg2 hc
                  go_roundw
                  case rel => exact ⟨kk, E, EL, P' ++ R, rfl, by have := HKK.out; omega, by omega, HE.out, HD.out, HRK2.out, by rw [HSA.out]; simpa using HR2.out, HG2.out⟩
                  case measure => have := HKK.out; simp [intOf]; omega
                · have hmnz : ¬ (m : Int) < n := by omega
                  have hR0 : R = [] := List.eq_nil_of_length_eq_zero (by omega)
                  have HR3 := Lib.hid (show RowTdr base g n cap (EL ++ srt (ltz cf) (P' ++ R)) wr by subst hR0; simpa [srt] using hr)
                  clear hE hD hr hg hPR hEL hEa hm hkk hRk hB hPk hR0
                  go_wp2
                  go_roundw
                  case rel => exact ⟨kk, E, EL, P' ++ R, rfl, by have := HKK.out; omega, by omega, HE.out, HD.out, HRK2.out, HR3.out, HG.out⟩
                  case measure => have := HKK.out; simp [intOf]; omega
        · have hknz : ¬ (k : Int) < n := by omega
          have hfin := hB.all HW.out (by omega) (R := R) (by omega)
          rw [hfin, hD] at hr
          have HROW := Lib.hid hr
          have HG := Lib.hid hg
          clear hB hD hPR hfin hr hg
          go_wp2
          go_end0
          exact ⟨rfl, HROW.out, HG.out⟩
theorem sortStableTdr_any (F : Nat) (cb : Array Value) (cf : Tdr → Tdr → Int) (Q : Tdr → Prop) (base g n cap : Nat) (D : List Tdr) (w : World)
    (eg : ∀ args w, (callFunc F args).run Tryz.prog w = .ok (.enter F args) w) (hcmp : CmpTdr F cb g cf Q w) (hW : Wk (ltz cf)) (hQ : ∀ x ∈ D, Q x)
    (hrow : RowTdr base g n cap D w) (hn : n ≤ 1000000000) :
    Calls Tryz.prog 206 #[.slice (some ⟨g, 0, none⟩) n cap, .func (.func F) #[] cb] w fun e w' => e = .returned (.tuple #[]) ∧ RowTdr base g n cap (srt (ltz cf) D) w' ∧ w.grownBy w' (some g) := by
  have HC := Lib.hid (stableTdr_any F cb cf Q base g n cap D w eg hcmp hW hQ hrow hn)
  clear hcmp hW hQ hrow
  go_enter Tryz.func206, Tryz.ntmps206
  go_wp2_with (go_at_call 263; refine HC.out.mono ?_; rintro e w2 ⟨rfl, hr2, hg2⟩)
  go_end0
  exact ⟨rfl, hr2, hg2⟩
set_option maxRecDepth 100000 in
theorem insTdr_nil (fv : Value) (w : World) :
    Calls Tryz.prog 294 #[.slice none 0 0, .int .i64 0, .int .i64 0, fv] w fun e w' => e = .returned (.tuple #[]) ∧ w' = w := by
  go_enter Tryz.func294, Tryz.ntmps294
  go_wp2
  go_loopw [8] (fun iv wr => iv = .int .i64 1 ∧ wr = w) (fun iv _ => 0)
  case atStart => exact ⟨rfl, rfl⟩
  case round =>
    obtain ⟨rfl, hw⟩ := hrel
    go_wp2
    go_end0
    first | exact ⟨rfl, hw⟩ | exact ⟨rfl, rfl⟩
set_option maxRecDepth 100000 in
theorem stableTdr_nil (fv : Value) (w : World) :
    Calls Tryz.prog 263 #[.slice none 0 0, .int .i64 0, fv] w fun e w' => e = .returned (.tuple #[]) ∧ w' = w := by
  go_enter Tryz.func263, Tryz.ntmps263
  go_wp2
  go_loopw [7, 8] (fun av bv wr => av = .int .i64 0 ∧ bv = .int .i64 20 ∧ wr = w) (fun av _ _ => 0)
  case atStart => exact ⟨rfl, rfl, rfl⟩
  case round =>
    obtain ⟨rfl, rfl, hw⟩ := hrel
    go_wp2_with (go_at_call 294; refine (insTdr_nil _ _).mono ?_; rintro e w2 ⟨rfl, hw2⟩)
    go_loopw [6, 7, 8, 9] (fun kv _ _ _ wr => kv = .int .i64 20 ∧ wr = w) (fun kv _ _ _ _ => 0)
    case atStart => exact ⟨rfl, by first | exact hw2 | trivial | rfl | (rw [hw2]; first | rfl | exact hw)⟩
    case round =>
      obtain ⟨rfl, hw3⟩ := hrel
      go_wp2
      go_end0
      first | exact ⟨rfl, hw3⟩ | exact ⟨rfl, rfl⟩
theorem sortStableTdr_nil (fv : Value) (w : World) :
    Calls Tryz.prog 206 #[.slice none 0 0, fv] w fun e w' => e = .returned (.tuple #[]) ∧ w' = w := by
  go_enter Tryz.func206, Tryz.ntmps206
  go_wp2_with (go_at_call 263; refine (stableTdr_nil _ _).mono ?_; rintro e w2 ⟨rfl, hw2⟩)
  go_end0
  first | exact ⟨rfl, hw2⟩ | exact ⟨rfl, rfl⟩
/-- any row of one's own is sorted in place -/
theorem sortTdr_own (F : Nat) (cb : Array Value) (cf : Tdr → Tdr → Int) (Q : Tdr → Prop) (base : Nat) (v : Value) (L : List Tdr) (w : World)
    (eg : ∀ args w, (callFunc F args).run Tryz.prog w = .ok (.enter F args) w) (hcmp : ∀ W, Below base w W → ∀ x y, Q x → Q y → Calls Tryz.prog F (#[vTdr x, vTdr y] ++ cb) W fun e w' => e = .returned (.int .i64 (cf x y)) ∧ Below W.heap.size W w')
    (hW : Wk (ltz cf)) (hQ : ∀ x ∈ L, Q x) (hb : base ≤ w.heap.size) (hown : w.ownsRow base 122 4 v L.length (flatE encTdr L)) (hn : L.length ≤ 1000000000) :
    Calls Tryz.prog 206 #[v, .func (.func F) #[] cb] w fun e w' => e = .returned (.tuple #[]) ∧ w'.ownsRow base 122 4 v L.length (flatE encTdr (srt (ltz cf) L)) ∧ Below base w w' := by
  rcases hown.2 with ⟨rfl, h0⟩ | ⟨g, cap, cur, rfl, hbg, hg, -⟩
  · have hL : L = [] := List.eq_nil_of_length_eq_zero h0
    subst hL
    refine (sortStableTdr_nil _ w).mono ?_
    rintro e w' ⟨rfl, rfl⟩
    exact ⟨rfl, hown, Below.refl _ _⟩
  · have hgl : g < w.heap.size := (Array.getElem?_eq_some_iff.1 hg).1
    refine (sortStableTdr_any F cb cf Q base g L.length cap L w eg (fun W hg' x y hx hy => hcmp W ((Below.refl _ _).grown hg' hb (fun q hq => by cases hq; exact hbg)) x y hx hy) hW hQ ⟨hown, rfl⟩ hn).mono ?_
    rintro e w' ⟨rfl, hr, hg'⟩
    refine ⟨rfl, ?_, (Below.refl _ _).grown hg' hb (fun q hq => by cases hq; exact hbg)⟩
    exact hr.1
theorem isNaN_anyY (a : Int) (w : World) : Calls Tryz.prog 260 #[.int .i64 a] w fun e w' => e = .returned (.bool false) ∧ w = w' := by
  go_enter Tryz.func260, Tryz.ntmps260
  go_wp2
  go_ret
  exact ⟨rfl, rfl⟩
/-- the comparison of two numbers -/
def cmpIY (a b : Int) : Int := if a < b then -1 else if b < a then 1 else 0
theorem compare_anyY (a b : Int) (w : World) : Calls Tryz.prog 188 #[.int .i64 a, .int .i64 b] w fun e w' => e = .returned (.int .i64 (cmpIY a b)) ∧ w = w' := by
  by_cases h1 : a < b
  · have e : cmpIY a b = -1 := if_pos h1
    rw [e]
    go_enter Tryz.func188, Tryz.ntmps188
    go_wp2_with (go_at_call 260; refine (isNaN_anyY _ _).mono ?_; rintro e w' ⟨rfl, rfl⟩)
    go_ret
    exact ⟨rfl, rfl⟩
  · by_cases h2 : b < a
    · have e : cmpIY a b = 1 := by unfold cmpIY; rw [if_neg h1, if_pos h2]
      rw [e]
      go_enter Tryz.func188, Tryz.ntmps188
      go_wp2_with (go_at_call 260; refine (isNaN_anyY _ _).mono ?_; rintro e w' ⟨rfl, rfl⟩)
      go_ret
      exact ⟨rfl, rfl⟩
    · have e : cmpIY a b = 0 := by unfold cmpIY; rw [if_neg h1, if_neg h2]
      rw [e]
      go_enter Tryz.func188, Tryz.ntmps188
      go_wp2_with (go_at_call 260; refine (isNaN_anyY _ _).mono ?_; rintro e w' ⟨rfl, rfl⟩)
      go_ret
      exact ⟨rfl, rfl⟩
/-- the first that is not 0 -/
def orL : List Int → Int
  | [] => 0
  | a :: L => if a = 0 then orL L else a
theorem or_any (P : Nat → Prop) (v : Value) (L : List Int) (w : World) (hS : Sl 1 encI P w v L) (hlen : L.length ≤ 1000000) :
    Calls Tryz.prog 187 #[v] w fun e w' => e = .returned (.int .i64 (orL L)) ∧ w = w' := by
  obtain ⟨ao, n, c, rfl, hn, hnc, hcm⟩ := hS.shape
  have hn1 : n ≤ 1000000 := by omega
  obtain ⟨r, hr⟩ : ∃ r, orL L = r := ⟨_, rfl⟩
  rw [hr]
  have HS := Lib.hid hS
  have HN := Lib.hid hn
  have HR := Lib.hid hr
  clear hS hn hlen hr
  go_enter Tryz.func187, Tryz.ntmps187
  go_wp2
  go_loopw [8] (fun iv wr => ∃ k : Nat, k ≤ n ∧ iv = .int .i64 k ∧ r = orL (L.drop k) ∧ wr = w) (fun iv _ => n - (intOf iv).toNat)
  case atStart => exact ⟨0, by omega, rfl, by rw [List.drop_zero]; exact HR.out.symm, rfl⟩
  case round =>
    obtain ⟨k, hk, rfl, hrk, rfl⟩ := hrel
    by_cases hlt : k < n
    · obtain ⟨b, off, a, rfl, -, hb', hL, k0⟩ := HS.out.int hlt
      rw [drop_cons hL] at hrk
      simp only [orL] at hrk
      have HRK := Lib.hid hrk
      have hkn : (k : Int) < n := by omega
      clear hL hrk
      by_cases e1 : a = 0
      · have hrel2 := Lib.hid (show r = orL (L.drop (k + 1)) by rw [HRK.out, if_pos e1])
        subst e1
        go_wp2
        go_roundw
        case rel => exact ⟨k + 1, by omega, by go_num, hrel2.out, by first | rfl | trivial⟩
        case measure => simp [intOf]; omega
      · have hf := Lib.hid (show r = a by rw [HRK.out, if_neg e1])
        have h' : (a == 0) = false := by simpa using e1
        have h2 : (a != 0) = true := by simpa using e1
        go_wp2
        go_ret
        exact ⟨ret_int hf.out.symm, rfl⟩
    · have hf := Lib.hid (show r = 0 by rw [hrk, drop_all (by have := HN.out; omega)]; rfl)
      clear hrk
      go_wp2
      go_ret
      exact ⟨ret_int hf.out.symm, rfl⟩
theorem cmpI_neg (a b : Int) : cmpIY a b < 0 ↔ a < b := by
  unfold cmpIY
  by_cases h1 : a < b
  · simp [h1]
  · by_cases h2 : b < a
    · simp [h1, h2]
    · simp [h1, h2]
theorem cmpI_zero (a b : Int) : cmpIY a b = 0 ↔ a = b := by
  unfold cmpIY
  by_cases h1 : a < b
  · rw [if_pos h1]; omega
  · rw [if_neg h1]
    by_cases h2 : b < a
    · rw [if_pos h2]; omega
    · rw [if_neg h2]; omega
/-- a valid tender -/
structure TdrOk (x : Tdr) : Prop where
  h0 : 1 ≤ x.h
  h1 : x.h ≤ 1000
  n0 : 1 ≤ x.n
  n1 : x.n ≤ 40
  a0 : 1000 ≤ x.a
  a1 : x.a ≤ 1000000000
  am : x.a % 1000 = 0
  p0 : 1 ≤ x.p
  p1 : x.p ≤ 200000
/-- no two tenders have one key -/
def KeysT (L : List Tdr) : Prop := L.Pairwise fun x y => ¬ (x.h = y.h ∧ x.n = y.n)
theorem amongB_any (n lo hi : Int) (w : World) : Calls Tryz.prog 262 #[.int .i64 n, .int .i64 lo, .int .i64 hi] w fun e w' => e = .returned (.bool (inB n lo hi)) ∧ w = w' := by
  go_enter Tryz.func262, Tryz.ntmps262
  go_wp2
  all_goals (go_ret; exact ⟨ret_bool (by simp only [inB]; first | (rw [Bool.eq_iff_iff]; simp; omega) | (simp; omega)), rfl⟩)
theorem amongY_any (n lo hi : Int) (w : World) : Calls Tryz.prog 190 #[.int .i64 n, .int .i64 lo, .int .i64 hi] w fun e w' => e = .returned (.bool (inB n lo hi)) ∧ w = w' := by
  go_enter Tryz.func190, Tryz.ntmps190
  go_wp2
  all_goals (go_ret; exact ⟨ret_bool (by simp only [inB]; first | (rw [Bool.eq_iff_iff]; simp; omega) | (simp; omega)), rfl⟩)
theorem lots_any (n : Int) (w : World) (h0 : 1000 ≤ n) (h1 : n ≤ 1000000000) (hm : n % 1000 = 0) : Calls Tryz.prog 204 #[.int .i64 n] w fun e w' => e = .returned (.bool true) ∧ w = w' := by
  have ht : Int.tmod n 1000 = 0 := by rw [Int.tmod_eq_emod_of_nonneg (by omega)]; exact hm
  have hb : inB n 1000 1000000000 = true := inB_iff.2 ⟨h0, h1⟩
  go_enter Tryz.func204, Tryz.ntmps204
  go_wp2_with (go_at_call 262; refine (amongB_any _ _ _ _).mono ?_; rw [hb]; rintro e w' ⟨rfl, rfl⟩)
  go_ret
  exact ⟨ret_bool (by simp [ht]), rfl⟩
theorem tvalid_any (x : Tdr) (w : World) (h : TdrOk x) : Calls Tryz.prog 98 #[.agg #[.int .i64 x.h, .int .i64 x.n, .int .i64 x.p, .int .i64 x.a]] w fun e w' => e = .returned (.bool true) ∧ Below w.heap.size w w' := by
  obtain ⟨hh, nn, p, a⟩ := x
  obtain ⟨b0, b1, n0, n1, a0, a1, am, p0, p1⟩ := h
  simp only at b0 b1 n0 n1 a0 a1 am p0 p1 ⊢
  have K1 := Lib.hid (fun U => lots_any a U a0 a1 am)
  have hb1 := Lib.hid (show inB hh 1 1000 = true from inB_iff.2 ⟨b0, b1⟩)
  have hb2 := Lib.hid (show inB nn 1 40 = true from inB_iff.2 ⟨n0, n1⟩)
  have hp := Lib.hid (show inB p 1 200000 = true from inB_iff.2 ⟨p0, p1⟩)
  clear p0 p1
  go_enter Tryz.func98, Tryz.ntmps98
  go_wp2_with (first | (go_at_call 204; refine (K1.out _).mono ?_; rintro e w' ⟨rfl, rfl⟩) | (go_at_call 190; refine (amongY_any _ _ _ _).mono ?_; (first | rw [hp.out] | rw [hb1.out] | rw [hb2.out]); rintro e w' ⟨rfl, rfl⟩))
  go_ret
  exact ⟨ret_bool (by first | rfl | simp), bal brefl _⟩
theorem tcheck1_any (x : Tdr) (w : World) (h : TdrOk x) : Calls Tryz.prog 201 #[.agg #[.int .i64 x.h, .int .i64 x.n, .int .i64 x.p, .int .i64 x.a]] w fun e w' => e = .returned (.bool false) ∧ Below w.heap.size w w' := by
  have K := Lib.hid (fun U => tvalid_any x U h)
  obtain ⟨hh, nn, p, a⟩ := x
  clear h
  go_enter Tryz.func201, Tryz.ntmps201
  go_wp2_with fail
  refine (K.out _).mono ?_
  rintro e w1 ⟨rfl, hb1⟩
  go_wp2
  go_ret
  exact ⟨ret_bool (by first | rfl | simp), bup (bal brefl _) hb1⟩
theorem orL2_neg (p q : Int) : orL [p, q] < 0 ↔ p < 0 ∨ p = 0 ∧ q < 0 := by
  simp only [orL]
  by_cases h1 : p = 0
  · rw [if_pos h1]
    by_cases h2 : q = 0
    · rw [if_pos h2]; omega
    · rw [if_neg h2]; omega
  · rw [if_neg h1]; omega
theorem orL2_zero (p q : Int) : orL [p, q] = 0 ↔ p = 0 ∧ q = 0 := by
  simp only [orL]
  by_cases h1 : p = 0
  · rw [if_pos h1]
    by_cases h2 : q = 0
    · rw [if_pos h2]; omega
    · rw [if_neg h2]; omega
  · rw [if_neg h1]; omega
theorem sl2 {a b : Int} {w : World} {B : Nat} (h0 : w.cell? ⟨B, 0, none⟩ = some (.int .i64 a)) (h1 : w.cell? ⟨B, 1, none⟩ = some (.int .i64 b)) : Sl 1 encI (fun _ => True) w (.slice (some ⟨B, 0, none⟩) 2 2) [a, b] := by
  refine ⟨_, 2, 2, rfl, rfl, Nat.le_refl _, by unfold maxLen; omega, .inr ⟨B, 0, rfl, trivial, World.block_lt_of_cell? w _ h0, fun j x hj i u hi => ?_⟩⟩
  have hj4 : j < 2 := by have := (List.getElem?_eq_some_iff.1 hj).1; simpa using this
  have hi1 : i < 1 := by have := (List.getElem?_eq_some_iff.1 hi).1; simpa [encI] using this
  obtain rfl : i = 0 := by omega
  simp only [encI, List.getElem?_cons_zero, Option.some.injEq] at hi
  subst hi
  rcases (show j = 0 ∨ j = 1 by omega) with rfl | rfl
  · simp at hj; subst hj; simpa using h0
  · simp at hj; subst hj; simpa using h1
/-- the order of tenders, and of awards -/
def cmpT (x y : Tdr) : Int := orL [cmpIY x.h y.h, cmpIY x.n y.n]
theorem cmpT_neg (x y : Tdr) : cmpT x y < 0 ↔ x.h < y.h ∨ x.h = y.h ∧ x.n < y.n := by
  unfold cmpT
  rw [orL2_neg, cmpI_neg, cmpI_neg, cmpI_zero]
theorem cmpT_zero (x y : Tdr) : cmpT x y = 0 ↔ x.h = y.h ∧ x.n = y.n := by
  unfold cmpT
  rw [orL2_zero, cmpI_zero, cmpI_zero]
theorem cmpT_wk : Wk (ltz cmpT) := by
  constructor
  · intro x y h
    unfold ltz at h ⊢
    rw [decide_eq_true_iff, cmpT_neg] at h
    rw [decide_eq_false_iff_not, cmpT_neg]
    omega
  · intro x y z h1 h2
    unfold ltz at h1 h2 ⊢
    rw [decide_eq_false_iff_not, cmpT_neg] at h1 h2 ⊢
    omega
def cmpW (x y : Awd) : Int := orL [cmpIY x.bd y.bd, cmpIY x.num y.num]
theorem cmpW_neg (x y : Awd) : cmpW x y < 0 ↔ x.bd < y.bd ∨ x.bd = y.bd ∧ x.num < y.num := by
  unfold cmpW
  rw [orL2_neg, cmpI_neg, cmpI_neg, cmpI_zero]
theorem cmpW_zero (x y : Awd) : cmpW x y = 0 ↔ x.bd = y.bd ∧ x.num = y.num := by
  unfold cmpW
  rw [orL2_zero, cmpI_zero, cmpI_zero]
theorem cmpW_wk : Wk (ltz cmpW) := by
  constructor
  · intro x y h
    unfold ltz at h ⊢
    rw [decide_eq_true_iff, cmpW_neg] at h
    rw [decide_eq_false_iff_not, cmpW_neg]
    omega
  · intro x y z h1 h2
    unfold ltz at h1 h2 ⊢
    rw [decide_eq_false_iff_not, cmpW_neg] at h1 h2 ⊢
    omega
set_option maxHeartbeats 4000000 in
set_option maxRecDepth 100000 in
theorem tcompare_any (h n p a h' n' p' a' : Int) (w : World) :
    Calls Tryz.prog 203 #[.agg #[.int .i64 h, .int .i64 n, .int .i64 p, .int .i64 a], .agg #[.int .i64 h', .int .i64 n', .int .i64 p', .int .i64 a']] w fun e w' => e = .returned (.int .i64 (cmpT ⟨h, n, p, a⟩ ⟨h', n', p', a'⟩)) ∧ Below w.heap.size w w' := by
  obtain ⟨x1, hx1⟩ : ∃ x, cmpIY h h' = x := ⟨_, rfl⟩
  obtain ⟨x2, hx2⟩ : ∃ x, cmpIY n n' = x := ⟨_, rfl⟩
  have e := Lib.hid (show cmpT ⟨h, n, p, a⟩ ⟨h', n', p', a'⟩ = orL [x1, x2] by unfold cmpT; simp only [hx1, hx2])
  have HX1 := Lib.hid hx1
  have HX2 := Lib.hid hx2
  clear hx1 hx2
  go_enter Tryz.func203, Tryz.ntmps203
  go_wp2
  go_region_held3 (fun w' => w'.cell? ⟨w.heap.size, 0, none⟩ = some (.int .i64 h) ∧ w'.cell? ⟨w.heap.size, 1, none⟩ = some (.int .i64 n) ∧ w'.cell? ⟨w.heap.size + 1, 0, none⟩ = some (.int .i64 h') ∧ w'.cell? ⟨w.heap.size + 1, 1, none⟩ = some (.int .i64 n')) (first | go_keep) (first | (go_at_call 188; refine (compare_anyY _ _ _).mono ?_; (first | rw [HX1.out] | rw [HX2.out]); rintro e w' ⟨rfl, rfl⟩) | (go_at_call 187; refine (or_any (fun _ => True) _ [x1, x2] _ (sl2 ?_ ?_) (by simp)).mono ?_; (· exact (World.cell?_alloc_at _ _ _ _ (by simp)).trans rfl); (· exact (World.cell?_alloc_at _ _ _ _ (by simp)).trans rfl); rintro e w' ⟨rfl, rfl⟩))
  go_wp2
  go_ret
  exact ⟨ret_int e.out.symm, bal (bdr (bal (bal brefl _) _)) _⟩
set_option maxHeartbeats 4000000 in
set_option maxRecDepth 100000 in
theorem wcompare_any (bd num a p bd' num' a' p' : Int) (w : World) :
    Calls Tryz.prog 211 #[.agg #[.int .i64 bd, .int .i64 num, .int .i64 a, .int .i64 p], .agg #[.int .i64 bd', .int .i64 num', .int .i64 a', .int .i64 p']] w fun e w' => e = .returned (.int .i64 (cmpW ⟨bd, num, a, p⟩ ⟨bd', num', a', p'⟩)) ∧ Below w.heap.size w w' := by
  obtain ⟨x1, hx1⟩ : ∃ x, cmpIY bd bd' = x := ⟨_, rfl⟩
  obtain ⟨x2, hx2⟩ : ∃ x, cmpIY num num' = x := ⟨_, rfl⟩
  have e := Lib.hid (show cmpW ⟨bd, num, a, p⟩ ⟨bd', num', a', p'⟩ = orL [x1, x2] by unfold cmpW; simp only [hx1, hx2])
  have HX1 := Lib.hid hx1
  have HX2 := Lib.hid hx2
  clear hx1 hx2
  go_enter Tryz.func211, Tryz.ntmps211
  go_wp2
  go_region_held3 (fun w' => w'.cell? ⟨w.heap.size, 0, none⟩ = some (.int .i64 bd) ∧ w'.cell? ⟨w.heap.size, 1, none⟩ = some (.int .i64 num) ∧ w'.cell? ⟨w.heap.size + 1, 0, none⟩ = some (.int .i64 bd') ∧ w'.cell? ⟨w.heap.size + 1, 1, none⟩ = some (.int .i64 num')) (first | go_keep) (first | (go_at_call 188; refine (compare_anyY _ _ _).mono ?_; (first | rw [HX1.out] | rw [HX2.out]); rintro e w' ⟨rfl, rfl⟩) | (go_at_call 187; refine (or_any (fun _ => True) _ [x1, x2] _ (sl2 ?_ ?_) (by simp)).mono ?_; (· exact (World.cell?_alloc_at _ _ _ _ (by simp)).trans rfl); (· exact (World.cell?_alloc_at _ _ _ _ (by simp)).trans rfl); rintro e w' ⟨rfl, rfl⟩))
  go_wp2
  go_ret
  exact ⟨ret_int e.out.symm, bal (bdr (bal (bal brefl _) _)) _⟩
/-- the order of prices -/
def cmpQ (x y : Tdr) : Int := cmpIY x.p y.p
theorem cmpQ_wk : Wk (ltz cmpQ) := by
  constructor
  · intro x y h
    unfold ltz cmpQ at h ⊢
    rw [decide_eq_true_iff, cmpI_neg] at h
    rw [decide_eq_false_iff_not, cmpI_neg]
    omega
  · intro x y z h1 h2
    unfold ltz cmpQ at h1 h2 ⊢
    rw [decide_eq_false_iff_not, cmpI_neg] at h1 h2 ⊢
    omega
theorem qcompare_any (h n p a h' n' p' a' : Int) (w : World) :
    Calls Tryz.prog 207 #[.agg #[.int .i64 h, .int .i64 n, .int .i64 p, .int .i64 a], .agg #[.int .i64 h', .int .i64 n', .int .i64 p', .int .i64 a']] w fun e w' => e = .returned (.int .i64 (cmpQ ⟨h, n, p, a⟩ ⟨h', n', p', a'⟩)) ∧ Below w.heap.size w w' := by
  obtain ⟨x1, hx1⟩ : ∃ x, cmpIY p p' = x := ⟨_, rfl⟩
  have e := Lib.hid (show cmpQ ⟨h, n, p, a⟩ ⟨h', n', p', a'⟩ = x1 by unfold cmpQ; exact hx1)
  have HX1 := Lib.hid hx1
  clear hx1
  go_enter Tryz.func207, Tryz.ntmps207
  go_wp2_with fail
  refine (compare_anyY p p' _).mono ?_
  rw [HX1.out]
  rintro e w1 ⟨rfl, rfl⟩
  go_wp2
  go_ret
  exact ⟨ret_int e.out.symm, bal (bal brefl _) _⟩
theorem tmost_any (B : Nat) (most h n p a : Int) (w : World) (hB : w.cell? ⟨B, 0, none⟩ = some (.int .i64 most)) :
    Calls Tryz.prog 205 #[.agg #[.int .i64 h, .int .i64 n, .int .i64 p, .int .i64 a], .pointer (some ⟨B, 0, none⟩)] w fun e w' => e = .returned (.bool (decide (most < p))) ∧ Below w.heap.size w w' := by
  have hlt : B < w.heap.size := World.block_lt_of_cell? _ _ hB
  have hne : ¬ B = w.heap.size := by omega
  go_enter Tryz.func205, Tryz.ntmps205
  go_wp2
  go_ret
  exact ⟨ret_bool (by first | rfl | simp), bal brefl _⟩
/-- the tenders in order -/
def srT (L : List Tdr) : List Tdr := srt (ltz cmpT) L
theorem ordered_any (P : Nat → Prop) (v : Value) (L : List Tdr) (w : World) (hS : Sl 4 encTdr P w v L) (hlen : L.length ≤ 1000000) :
    Calls Tryz.prog 202 #[v] w (Copied 4 encTdr 122 (srT L) w) := by
  have eg : ∀ args w, (callFunc 203 args).run Tryz.prog w = .ok (.enter 203 args) w := enters_of Tryz.func203 (by kernel_rfl) rfl
  have KC := Lib.hid (cloneTdr_any P v L w hS hlen)
  have KS := Lib.hid (fun (U : World) (u : Value) (hb : w.heap.size ≤ U.heap.size) (ho : U.ownsRow w.heap.size 122 4 u L.length (flatE encTdr L)) =>
    sortTdr_own 203 #[] cmpT (fun _ => True) w.heap.size u L U eg (fun W _ x y _ _ => tcompare_any x.h x.n x.p x.a y.h y.n y.p y.a W) cmpT_wk (fun _ _ => trivial) hb ho (by omega))
  clear hS eg
  go_enter Tryz.func202, Tryz.ntmps202
  go_wp2_with fail
  refine KC.out.mono ?_
  rintro e w1 ⟨v1, rfl, ho1, hb1⟩
  have HB1 := Lib.hid hb1
  have HO1 := Lib.hid ho1
  have z1 := hb1.size
  clear ho1 hb1
  go_wp2_with fail
  refine (KS.out _ _ z1 HO1.out).mono ?_
  rintro e w2 ⟨rfl, ho2, hb2⟩
  go_wp2
  go_ret
  exact ⟨_, rfl, by unfold srT; rw [srt_length]; exact ho2, HB1.out.trans hb2⟩
theorem keysT_perm {A B : List Tdr} (p : A.Perm B) (h : KeysT B) : KeysT A :=
  (List.Perm.pairwise_iff (fun {x y} h e => h ⟨e.1.symm, e.2.symm⟩) p).2 h
theorem keysT_srT {L : List Tdr} (h : KeysT L) : KeysT (srT L) := keysT_perm (srt_perm L) h
theorem keysT_next {S : List Tdr} (h : KeysT S) {k : Nat} {x y : Tdr} (hx : S[k]? = some x) (hy : S[k + 1]? = some y) : cmpT x y ≠ 0 := by
  unfold KeysT at h
  rw [List.pairwise_iff_getElem] at h
  obtain ⟨h1, rfl⟩ := List.getElem?_eq_some_iff.1 hx
  obtain ⟨h2, rfl⟩ := List.getElem?_eq_some_iff.1 hy
  intro e
  rw [cmpT_zero] at e
  exact h k (k + 1) h1 h2 (by omega) e
set_option maxHeartbeats 8000000 in
set_option maxRecDepth 100000 in
theorem tcheck_any (P : Nat → Prop) (v : Value) (L : List Tdr) (w : World) (hS : Sl 4 encTdr P w v L) (hok : ∀ x ∈ L, TdrOk x) (hd : KeysT L) (hl : L.length ≤ 60) :
    Calls Tryz.prog 96 #[v] w fun e w' => e = .returned (.int .i64 0) ∧ Below w.heap.size w w' := by
  obtain ⟨ao, n, c, rfl, hn, -, -⟩ := hS.shape
  have eg : ∀ args w, (callFunc 201 args).run Tryz.prog w = .ok (.enter 201 args) w := enters_of Tryz.func201 (by kernel_rfl) rfl
  have KC := Lib.hid (cnfTdr_any P 201 #[] (fun _ => false) TdrOk _ L w eg (fun W hW x hx => tcheck1_any x W hx) hok hS (by omega))
  have hany : L.any (fun _ => false) = false := by simp
  rw [hany] at KC
  have KO := Lib.hid (fun (U : World) (hU : Below w.heap.size w U) => ordered_any P _ L U (hS.below hU) (by omega))
  have HK := Lib.hid (keysT_srT hd)
  have hSn : (srT L).length = n := by unfold srT; rw [srt_length]; exact hn
  obtain ⟨S, hSS⟩ : ∃ S, srT L = S := ⟨_, rfl⟩
  rw [hSS] at KO HK hSn
  have HSN := Lib.hid hSn
  have hn60 : n ≤ 60 := by omega
  have hn60z : ¬ (60 : Int) < (n : Int) := by omega
  clear hS hok hd hl hn hany eg hSS hSn
  go_enter Tryz.func96, Tryz.ntmps96
  go_wp2_with fail
  refine KC.out.mono ?_
  rintro e w1 ⟨rfl, hb1⟩
  have HB1 := Lib.hid hb1
  clear hb1
  go_wp2_with fail
  refine (KO.out _ HB1.out).mono ?_
  rintro e w2 ⟨v2, rfl, ho2, hb2⟩
  have hS2 : Sl 4 encTdr (fun _ => True) w2 v2 S := Sl.own encTdr_len ho2 rfl (fun _ _ => trivial)
  obtain ⟨sa, n', sc, rfl, hn', -, -⟩ := hS2.shape
  obtain rfl : n' = n := by have := HSN.out; omega
  have HS2 := Lib.hid hS2
  have HB2 := Lib.hid (bup HB1.out hb2)
  clear ho2 hb2 hS2 hn'
  go_wp2
  go_loopw [4] (fun iv wr => ∃ k : Nat, (k ≤ n' ∨ k = 1) ∧ 1 ≤ k ∧ iv = .int .i64 k ∧ Below w2.heap.size w2 wr) (fun iv _ => n' - (intOf iv).toNat)
  case atStart => exact ⟨1, by omega, by omega, rfl, brefl⟩
  case round =>
    obtain ⟨k, hk, hk1, rfl, hbr⟩ := hrel
    have zr := hbr.size
    by_cases hlt : k < n'
    · obtain ⟨k, rfl⟩ : ∃ j, k = j + 1 := ⟨k - 1, by omega⟩
      obtain ⟨bb, off, x0, x1, x2, x3, rfl, -, hbb, hx, a0, a1, a2, a3⟩ := (HS2.out.below hbr).tdr (k := k) (by omega)
      obtain ⟨bb', off', y0, y1, y2, y3, hE, -, hbb', hy, c0, c1, c2, c3⟩ := (HS2.out.below hbr).tdr hlt
      cases hE
      have hne := keysT_next HK.out hx hy
      have hkz : ((k + 1 : Nat) : Int) < (n' : Int) := by omega
      have hw1 : wrap64 (((k + 1 : Nat) : Int) - 1) = (k : Int) := by rw [show ((k + 1 : Nat) : Int) - 1 = (k : Int) by omega]; exact IntWalk.wrap64_in _ (by omega)
      have HW1 := Lib.hid hw1
      obtain ⟨V, hV⟩ : ∃ V, cmpT ⟨x0, x1, x2, x3⟩ ⟨y0, y1, y2, y3⟩ = V := ⟨_, rfl⟩
      have KV := Lib.hid (fun U => tcompare_any x0 x1 x2 x3 y0 y1 y2 y3 U)
      rw [hV] at KV hne
      have ua0 := up_cell a0
      have ua1 := up_cell a1
      have ua2 := up_cell a2
      have ua3 := up_cell a3
      have uc0 := up_cell c0
      have uc1 := up_cell c1
      have uc2 := up_cell c2
      have uc3 := up_cell c3
      have HBR := Lib.hid hbr
      have hkz2 : (k : Int) < (n' : Int) := by omega
      have hkz0 : 0 ≤ (k : Int) := by omega
      have hne2 : (V == 0) = false := by simpa using hne
      clear hx hy hV hbr a0 a1 a2 a3 c0 c1 c2 c3 hw1
      go_upto_region 9 with fail
      have hw1 := HW1.out
      clear HW1
      (refine wp_region_up (by kernel_rfl) (by kernel_rfl) ?_); (repeat (go_big_quiet_step (((go_at_call 203; refine (KV.out _).mono ?_; exact fun _ _ hh => ⟨hh.1, ⟨_, bup (Subtype.property _) hh.2⟩, rfl⟩))))); (refine wpQuiet_nil ?_); (rintro w3 ⟨⟨_, hb3⟩, rfl⟩)
      have HB3 := Lib.hid (bup HBR.out hb3)
      clear hb3 hw1
      go_wp2
      go_roundw
      case rel => exact ⟨k + 1 + 1, by omega, by omega, by go_num, HB3.out⟩
      case measure => simp [intOf]; omega
    · clear KC KO
      go_wp2
      go_ret
      exact ⟨rfl, bup HB2.out hbr⟩
/-- tenders that the source gives -/
structure TdrsOk (most : Int) (L : List Tdr) : Prop where
  n : (L.length : Int) ≤ most
  ok : ∀ x ∈ L, TdrOk x
  num : ∀ (k : Nat) (x : Tdr), L[k]? = some x → x.n = (k : Int) + 1
theorem TdrsOk.keys {most : Int} {L : List Tdr} (h : TdrsOk most L) : KeysT L := by
  unfold KeysT
  rw [List.pairwise_iff_getElem]
  intro i j hi hj hij
  have e1 := h.num i _ (List.getElem?_eq_getElem hi)
  have e2 := h.num j _ (List.getElem?_eq_getElem hj)
  rintro ⟨-, h2⟩
  omega
/-- valid tenders have been drawn -/
def GaveT (most : Int) (sb : Nat) (w : World) (e : Ending) (w' : World) : Prop :=
  ∃ v L, e = .returned v ∧ w'.ownsRow w.heap.size 122 4 v L.length (flatE encTdr L) ∧ TdrsOk most L ∧ SrcOk w' sb ∧ w.grownBy w' (some sb)
theorem newsTdr (w : World) (g : Nat) (hg : g = w.heap.size) (x0 x1 x2 x3 : Int) : ∀ j u, (encTdr ⟨x0, x1, x2, x3⟩)[j]? = some u → (w.alloc (.cells #[.int .i64 x0, .int .i64 x1, .int .i64 x2, .int .i64 x3] 122 (0, 0))).cell? ((⟨g, 0, none⟩ : Addr).add j) = some u := by
  subst hg
  exact newsL w (encTdr ⟨x0, x1, x2, x3⟩) 122
theorem smW (z : Int) (z0 : 0 ≤ z) (z1 : z ≤ 20) : wrap64 (z + 1) = z + 1 ∧ IntKind.i64.wrap (z + 1) = z + 1 ∧ wrap64 z = z := ⟨IntWalk.wrap64_in _ (by omega), IntWalk.i64_in _ (by omega), IntWalk.wrap64_in _ (by omega)⟩
theorem smM (z : Int) (z0 : 1 ≤ z) (z1 : z ≤ 17) : wrap64 (1000 * z) = 1000 * z ∧ IntKind.i64.wrap (1000 * z) = 1000 * z := ⟨IntWalk.wrap64_in _ (by omega), IntWalk.i64_in _ (by omega)⟩
theorem below_keep {B : Nat} {w w' : World} (h : Below B w w') (row : Option Nat) {a : World} (hB : a.heap.size ≤ B) (hg : a.grownBy w row) : a.grownBy w' row :=
  ⟨h.os.trans hg.os, h.tape.trans hg.tape, h.output.trans hg.output, Nat.le_trans hg.size h.size, fun i hi hx => (h.block i (by omega)).trans (hg.block i hi hx)⟩
set_option maxHeartbeats 8000000 in
set_option maxRecDepth 100000 in
theorem stenders_any (sb : Nat) (most : Int) (w : World) (hs : SrcOk w sb) (hm0 : 0 ≤ most) (hm1 : most ≤ 20) : Calls Tryz.prog 92 #[.pointer (some ⟨sb, 0, none⟩), .int .i64 most] w (GaveT most sb w) := by
  have hlt := srcOk_lt hs
  have HS := Lib.hid hs
  obtain ⟨i1, hi, hz0, hz1, hz2⟩ := info_parts infoTdr
  have hwm : wrap64 (most + 1) = most + 1 := IntWalk.wrap64_in _ (by omega)
  have him : IntKind.i64.wrap (most + 1) = most + 1 := IntWalk.i64_in _ (by omega)
  clear hs
  go_enter Tryz.func92, Tryz.ntmps92
  go_wp2_with fail
  refine (n_any sb (most + 1) _ HS.out (by omega)).mono ?_
  rintro e w1 ⟨r0, hr0, rfl, hS1, hG1⟩
  obtain ⟨r0, rfl⟩ : ∃ m : Nat, r0 = (m : Int) := ⟨r0.toNat, by omega⟩
  have HS1 := Lib.hid hS1
  have HG1 := Lib.hid hG1
  have z1 := hG1.size
  have hr1 : (r0 : Int) ≤ most := by omega
  clear hS1 hG1 hr0 hwm him
  go_wp2
  go_loopw [5, 6] (fun ov kv wr => ∃ (r : Nat) (L : List Tdr), kv = .int .i64 r ∧ (L.length : Int) + r ≤ most ∧ wr.ownsRow w.heap.size 122 4 ov L.length (flatE encTdr L) ∧ (∀ x ∈ L, TdrOk x) ∧ (∀ (k : Nat) (x : Tdr), L[k]? = some x → x.n = (k : Int) + 1) ∧ SrcOk wr sb ∧ w.grownBy wr (some sb)) (fun _ kv _ => (intOf kv).toNat)
  case atStart => exact ⟨r0, [], rfl, by simp; omega, World.ownsRow_nil _ _ _ _, fun x h => by simp at h, fun k x h => by simp at h, HS1.out, HG1.out⟩
  case round =>
    obtain ⟨r, L, rfl, hlr, hown, hlk, hnu, hso, hgr⟩ := hrel
    have zr := hgr.size
    cases r with
    | zero =>
      have HF := Lib.hid (And.intro hown (And.intro (show TdrsOk most L from ⟨by omega, hlk, hnu⟩) (And.intro hso hgr)))
      clear hown hlk hnu hso hgr
      go_wp2
      go_ret
      exact ⟨_, L, rfl, HF.out.1, HF.out.2.1, HF.out.2.2.1, HF.out.2.2.2⟩
    | succ r =>
      have hrz : (0 : Int) < (r : Int) + 1 := by omega
      have hln : (L.length : Int) ≤ 20 := by omega
      obtain ⟨oa, oc, rfl⟩ := own_sl hown
      have hfar : ∀ (U U' : World), U.ownsRow w.heap.size 122 4 (.slice oa L.length oc) L.length (flatE encTdr L) → U.grownBy U' (some sb) → U'.ownsRow w.heap.size 122 4 (.slice oa L.length oc) L.length (flatE encTdr L) := fun U U' ho hg => by
        refine ho.kept hg ?_
        cases hob : (Value.slice oa L.length oc).ownBlock with
        | none => exact .inl rfl
        | some g => exact .inr fun e => by cases e; have := (ho.lt _ hob).1; omega
      have HFAR := Lib.hid hfar
      have HOW := Lib.hid hown
      have HLK := Lib.hid hlk
      have HNU := Lib.hid hnu
      have HSO := Lib.hid hso
      have HGR := Lib.hid hgr
      have hr20 : (r : Int) ≤ 20 := by omega
      have HWL := Lib.hid (smW (L.length : Int) (Int.natCast_nonneg _) hln)
      have HWR := Lib.hid (smW (r : Int) (Int.natCast_nonneg _) hr20).2.2
      clear hown hlk hnu hso hgr hfar
      go_wp2_with fail
      refine (range_any sb 1 4 _ HSO.out (by decide) (by decide) (by decide)).mono ?_
      rintro e w2 ⟨x1, hm1, rfl, hS2, hG2⟩
      have HS2 := Lib.hid hS2
      have HG2 := Lib.hid (grownBy_trans HGR.out hG2)
      have HO2 := Lib.hid (HFAR.out _ _ HOW.out hG2)
      have z2 := hG2.size
      clear hS2 hG2
      have hwl := HWL.out.1
      have hil := HWL.out.2.1
      go_wp2_with fail
      clear hwl hil
      refine (pick_lit sb [98000, 99000, 100000, 101000] _ _ _ _ HS2.out (by decide) (by decide) rfl rfl rfl).mono ?_
      rintro e w3 ⟨x2, hx2, rfl, hS3, hG3⟩
      have hm2 : 1 ≤ x2 ∧ x2 ≤ 200000 := by simp only [List.mem_cons, List.not_mem_nil, or_false] at hx2; omega
      have HS3 := Lib.hid hS3
      have HG3 := Lib.hid (grownBy_trans HG2.out hG3)
      have HO3 := Lib.hid (HFAR.out _ _ HO2.out hG3)
      have z3 := hG3.size
      clear hx2 hS3 hG3
      go_wp2_with fail
      refine (pick_lit sb [1, 2, 4] _ _ _ _ HS3.out (by decide) (by decide) rfl rfl rfl).mono ?_
      rintro e w4 ⟨x3, hx3, rfl, hS4, hG4⟩
      have hm3 : 1 ≤ x3 ∧ x3 ≤ 4 := by simp only [List.mem_cons, List.not_mem_nil, or_false] at hx3; omega
      have HW3 := Lib.hid (smM x3 hm3.1 (by omega))
      have HS4 := Lib.hid hS4
      have HG4 := Lib.hid (grownBy_trans HG3.out hG4)
      have HO4 := Lib.hid (HFAR.out _ _ HO3.out hG4)
      have z4 := hG4.size
      have hs4 := srcOk_lt hS4
      clear hx3 hS4 hG4
      have hw3 := HW3.out.1
      have hi3 := HW3.out.2
      have z6 : w.heap.size ≤ w4.heap.size := by have := HG4.out.size; omega
      have q1 : L.length + 1 ≤ maxLen := by unfold maxLen; omega
      have q2 : (L.length + 1) * 32 ≤ 140737488355328 := by omega
      go_wp2_with (at_builtin; go_must (refine wpList_append_own _ rfl _ _ 117 rfl w.heap.size 122 i1 (.agg #[.int .i64 0, .int .i64 0, .int .i64 0, .int .i64 0]) 4 32 Tryz.underlying117 hi hz0 hz1 hz2 rfl (by decide) _ _ _ rfl (HO4.out.alloc _) ⟨_, 0, none⟩ 1 1 (encTdr ⟨x1, (L.length : Int) + 1, x2, 1000 * x3⟩) rfl rfl (newsTdr _ _ (by simp) x1 ((L.length : Int) + 1) x2 (1000 * x3)) (oneTdr _) q1 q2 (Nat.le_trans z6 (by simp)) ?_); intro v' w9 hown' hgrow _)
      clear hw3 hi3
      go_roundw
      case rel =>
        have hb9 : Below w.heap.size w4 w9 := ((Below.refl _ w4).alloc (by omega) _).grown hgrow (by simp; omega) (fun q hq => (HO4.out.lt q hq).1)
        exact ⟨r, L ++ [⟨x1, (L.length : Int) + 1, x2, 1000 * x3⟩], by go_num, by simp; omega, by rw [flatE_snoc, List.length_append]; exact hown', fun x hx => by
          rw [List.mem_append] at hx
          rcases hx with hx | hx
          · exact HLK.out x hx
          · simp only [List.mem_singleton] at hx; subst hx; exact ⟨hm1.1, by simp only; omega, by simp only; omega, by simp only; omega, by simp only; omega, by simp only; omega, by simp only; omega, hm2.1, hm2.2⟩, fun k x hk => by
          rcases Nat.lt_or_ge k L.length with hkl | hkl
          · rw [List.getElem?_append_left hkl] at hk; exact HNU.out k x hk
          · have hlt := (List.getElem?_eq_some_iff.1 hk).1
            simp only [List.length_append, List.length_cons, List.length_nil] at hlt
            obtain rfl : k = L.length := by omega
            rw [List.getElem?_append_right (Nat.le_refl _), Nat.sub_self] at hk
            simp only [List.getElem?_cons_zero, Option.some.injEq] at hk
            subst hk; rfl, srcOk_below HS4.out hb9 (by omega), below_keep hb9 (some sb) (Nat.le_refl _) HG4.out⟩
      case measure => first | (simp [intOf]; done) | (simp [intOf]; omega)
/-- the function F, bound to cb, compares two numbers with Q wherever block g alone has turned -/
def Cmps (F : Nat) (cb : Array Value) (g : Nat) (cf : Int → Int → Int) (Q : Int → Prop) (w : World) : Prop :=
  ∀ W, w.grownBy W (some g) → ∀ x y, Q x → Q y → Calls Tryz.prog F (#[.int .i64 x, .int .i64 y] ++ cb) W fun e w' => e = .returned (.int .i64 (cf x y)) ∧ ∃ q, w' = W.drewN q
/-- 'x lies ahead of y', as the sort asks it -/
def ltc {α : Type} (cf : α → α → Int) (x y : α) : Bool := decide (cf x y < 0)
/-- the cells of a list of integers -/
def cI (x : Int) : Value := .int .i64 x
/-- the list L lies in the row of block g -/
def RowI (base g n cap : Nat) (L : List Int) (w : World) : Prop := w.ownsRow base 3 1 (.slice (some ⟨g, 0, none⟩) n cap) n (L.map cI) ∧ L.length = n
theorem gtrans {a b c : World} {x : Option Nat} (h : a.grownBy b x) (k : b.grownBy c x) : a.grownBy c x :=
  ⟨k.os.trans h.os, k.tape.trans h.tape, k.output.trans h.output, Nat.le_trans h.size k.size, fun i hi hx => (k.block i (Nat.lt_of_lt_of_le hi h.size) hx).trans (h.block i hi hx)⟩
theorem grefl (a : World) (x : Option Nat) : a.grownBy a x := ⟨rfl, rfl, rfl, Nat.le_refl _, fun _ _ _ => rfl⟩
theorem gdrew {a b : World} {x : Option Nat} (h : a.grownBy b x) (q : Nat) : a.grownBy (b.drewN q) x := ⟨h.os, h.tape, h.output, h.size, h.block⟩
theorem RowI.drewN {base g n cap : Nat} {L : List Int} {w : World} (h : RowI base g n cap L w) (q : Nat) : RowI base g n cap L (w.drewN q) := ⟨h.1, h.2⟩
theorem RowI.at_ {base g n cap : Nat} {L : List Int} {w : World} (h : RowI base g n cap L w) {j : Nat} {x : Int} (hx : L[j]? = some x) : w.cell? ⟨g, j, none⟩ = some (.int .i64 x) ∧ w.frozen? ⟨g, j, none⟩ = false := by
  have hj : j < n := by rw [← h.2]; exact (List.getElem?_eq_some_iff.1 hx).1
  refine ⟨?_, h.1.frozenAt j⟩
  rw [h.1.cellAt j (by omega), List.getElem?_map, hx]; rfl
theorem RowI.set {base g n cap : Nat} {L : List Int} {w : World} (h : RowI base g n cap L w) (j : Nat) (x : Int) : RowI base g n cap (L.set j x) (w.setCell ⟨g, j, none⟩ (.int .i64 x)) ∧ w.grownBy (w.setCell ⟨g, j, none⟩ (.int .i64 x)) (some g) := by
  have := h.1.stored j (.int .i64 x)
  refine ⟨⟨?_, by rw [List.length_set]; exact h.2⟩, this.2⟩
  rw [List.map_set]; exact this.1
/-- two stores: an exchange -/
theorem RowI.swap {base g n cap : Nat} {L : List Int} {w : World} (h : RowI base g n cap L w) (i j : Nat) (x y : Int) (q : Nat) :
    RowI base g n cap ((L.set i x).set j y) (((w.setCell ⟨g, i, none⟩ (.int .i64 x)).setCell ⟨g, j, none⟩ (.int .i64 y)).drewN q) ∧ w.grownBy (((w.setCell ⟨g, i, none⟩ (.int .i64 x)).setCell ⟨g, j, none⟩ (.int .i64 y)).drewN q) (some g) := by
  obtain ⟨h1, g1⟩ := h.set i x
  obtain ⟨h2, g2⟩ := h1.set j y
  exact ⟨h2.drewN q, gdrew (gtrans g1 g2) q⟩
theorem get_pair {α : Type} (P R : List α) (y x : α) : (P ++ y :: x :: R)[P.length]? = some y ∧ (P ++ y :: x :: R)[P.length + 1]? = some x := by
  constructor
  · simp
  · rw [List.getElem?_append_right (by omega)]; simp
theorem set_pair {α : Type} (P R : List α) (y x a b : α) : ((P ++ y :: x :: R).set (P.length + 1) a).set P.length b = P ++ b :: a :: R := by
  rw [List.set_append_right _ _ (by omega), List.set_append_right _ _ (by omega)]
  simp [show P.length + 1 - P.length = 1 by omega]
theorem set_pair' {α : Type} (P R : List α) (y x a b : α) : ((P ++ y :: x :: R).set P.length a).set (P.length + 1) b = P ++ a :: b :: R := by
  rw [List.set_append_right _ _ (by omega), List.set_append_right _ _ (by omega)]
  simp [show P.length + 1 - P.length = 1 by omega]
/-- an exchange of neighbours -/
theorem RowI.nbr {base g n cap : Nat} {P R : List Int} {y x : Int} {w : World} (h : RowI base g n cap (P ++ y :: x :: R) w) (q : Nat) {j jp : Nat} (hp : P.length = jp) (hj : j = jp + 1) :
    RowI base g n cap (P ++ x :: y :: R) (((w.setCell ⟨g, j, none⟩ (.int .i64 y)).setCell ⟨g, jp, none⟩ (.int .i64 x)).drewN q) ∧ w.grownBy (((w.setCell ⟨g, j, none⟩ (.int .i64 y)).setCell ⟨g, jp, none⟩ (.int .i64 x)).drewN q) (some g) := by
  subst hj hp
  have := h.swap (P.length + 1) P.length y x q
  rwa [set_pair] at this
theorem Cmps.on {F : Nat} {cb : Array Value} {g : Nat} {cf : Int → Int → Int} {Q : Int → Prop} {w w' : World} (h : Cmps F cb g cf Q w) (hg : w.grownBy w' (some g)) : Cmps F cb g cf Q w' :=
  fun W hW x y hx hy => h W (gtrans hg hW) x y hx hy

theorem snoc_cases {α : Type} (L : List α) : L = [] ∨ ∃ S y, L = S ++ [y] := by
  rcases List.eq_nil_or_concat L with h | ⟨S, y, h⟩
  · exact .inl h
  · exact .inr ⟨S, y, by rw [h, List.concat_eq_append]⟩
/-- the inner loop's list -/
def InIns (lt : Int → Int → Bool) (X S T : List Int) (x : Int) (j : Nat) (D : List Int) : Prop :=
  ∃ S1 S2, S = S1 ++ S2 ∧ j = X.length + S1.length ∧ D = X ++ S1 ++ x :: (S2 ++ T) ∧ ∀ y ∈ S2, lt x y = true
theorem InIns.out {lt : Int → Int → Bool} (H : Wk lt) {X S T : List Int} {x : Int} {j : Nat} {D : List Int} (h : InIns lt X S T x j D) (hS : Asc lt S) (hx : j = X.length ∨ ∃ y, D[j - 1]? = some y ∧ lt x y = false) : D = X ++ mrg lt S [x] ++ T := by
  obtain ⟨S1, S2, rfl, rfl, rfl, h2⟩ := h
  rw [mrg_put H hS h2]
  · simp
  · rcases snoc_cases S1 with rfl | ⟨S, y, rfl⟩
    · exact .inl rfl
    · refine .inr ⟨S, y, rfl, ?_⟩
      rcases hx with hx | ⟨z, hz, hlt⟩
      · simp at hx
      · have e : (X ++ (S ++ [y]) ++ x :: (S2 ++ T))[X.length + (S ++ [y]).length - 1]? = some y := by
          rw [List.getElem?_append_left (by simp), List.getElem?_append_right (by simp)]
          simp [show X.length + (S.length + 1) - 1 - X.length = S.length by omega]
        rw [e] at hz
        cases hz
        exact hlt
theorem InIns.step {lt : Int → Int → Bool} {X S T : List Int} {x : Int} {j : Nat} {D : List Int} (h : InIns lt X S T x j D) (hj : X.length < j) :
    ∃ P y R, D = P ++ y :: x :: R ∧ P.length + 1 = j ∧ (lt x y = true → InIns lt X S T x P.length (P ++ x :: y :: R)) := by
  obtain ⟨S1, S2, rfl, rfl, rfl, h2⟩ := h
  rcases snoc_cases S1 with rfl | ⟨S, y, rfl⟩
  · simp at hj
  · refine ⟨X ++ S, y, S2 ++ T, by simp, by simp; omega, fun hl => ⟨S, y :: S2, by simp, by simp, by simp, fun z hz => ?_⟩⟩
    rcases List.mem_cons.1 hz with rfl | hz
    · exact hl
    · exact h2 z hz
theorem InIns.mem {lt : Int → Int → Bool} {X S T : List Int} {x : Int} {j : Nat} {D : List Int} (h : InIns lt X S T x j D) {Q : Int → Prop} (hS : ∀ z ∈ S, Q z) (hj : X.length < j) {y : Int} (hy : D[j - 1]? = some y) : Q y := by
  obtain ⟨S1, S2, rfl, rfl, rfl, h2⟩ := h
  rw [List.getElem?_append_left (by simp; omega), List.getElem?_append_right (by omega)] at hy
  exact hS y (List.mem_append_left _ (List.mem_of_getElem? hy))

set_option maxHeartbeats 4000000 in
set_option maxRecDepth 100000 in
theorem insSort_any (F : Nat) (cb : Array Value) (cf : Int → Int → Int) (Q : Int → Prop) (base g n cap a b : Nat) (X A Y : List Int) (w : World)
    (eg : ∀ args w, (callFunc F args).run Tryz.prog w = .ok (.enter F args) w) (hcmp : Cmps F cb g cf Q w) (hW : Wk (ltc cf)) (hQ : ∀ x ∈ A, Q x)
    (hrow : RowI base g n cap (X ++ A ++ Y) w) (ha : X.length = a) (hb : a + A.length = b) (hn : n ≤ 1000000000) :
    Calls Tryz.prog 346 #[.slice (some ⟨g, 0, none⟩) n cap, .int .i64 a, .int .i64 b, .func (.func F) #[] cb] w fun e w' => e = .returned (.tuple #[]) ∧ RowI base g n cap (X ++ srt (ltc cf) A ++ Y) w' ∧ w.grownBy w' (some g) := by
  have hlen : X.length + A.length + Y.length = n := by have := hrow.2; simp at this; omega
  have hbn : b ≤ n := by omega
  have HC := Lib.hid hcmp
  have HQ := Lib.hid hQ
  have HA := Lib.hid ha
  have HB := Lib.hid hb
  have HW := Lib.hid hW
  have HR := Lib.hid hrow
  clear hcmp hQ hW hrow hlen ha
  go_enter Tryz.func346, Tryz.ntmps346
  go_wp2
  go_loopw [8] (fun iv wr => ∃ i : Nat, a + 1 ≤ i ∧ i ≤ b + 1 ∧ iv = .int .i64 i ∧ RowI base g n cap (X ++ srt (ltc cf) (A.take (i - a)) ++ (A.drop (i - a) ++ Y)) wr ∧ w.grownBy wr (some g)) (fun iv _ => (b + 1) - (intOf iv).toNat)
  case atStart =>
    refine ⟨a + 1, by omega, by omega, by go_num, ?_, grefl _ _⟩
    rw [show a + 1 - a = 1 by omega]
    have e : srt (ltc cf) (A.take 1) = A.take 1 := by
      cases A with
      | nil => rfl
      | cons x A => exact srt_one x
    rw [e, ← List.append_assoc, List.append_assoc X, List.take_append_drop]
    exact HR.out
  case round =>
    obtain ⟨i, hi1, hi2, rfl, hr, hg⟩ := hrel
    by_cases hlt : i < b
    · have hltz : (i : Int) < (b : Int) := by omega
      obtain ⟨x, hx⟩ : ∃ x, A[i - a]? = some x := ⟨_, List.getElem?_eq_getElem (by omega)⟩
      have hdrop := drop_cons hx
      have htake := take_snocZ hx
      have hxQ := HQ.out x (List.mem_of_getElem? hx)
      obtain ⟨S, hS⟩ : ∃ S, srt (ltc cf) (A.take (i - a)) = S := ⟨_, rfl⟩
      have hSl : S.length = i - a := by rw [← hS, srt_length, List.length_take]; omega
      have hSa : Asc (ltc cf) S := by rw [← hS]; exact srt_asc HW.out _
      have hSQ : ∀ z ∈ S, Q z := fun z hz => by rw [← hS] at hz; exact HQ.out z (List.mem_of_mem_take ((srt_mem _ _).1 hz))
      have hnext : srt (ltc cf) (A.take (i + 1 - a)) = mrg (ltc cf) S [x] := by rw [show i + 1 - a = i - a + 1 by omega, htake, srt_append HW.out, hS, srt_one]
      have hdrop' : A.drop (i + 1 - a) = A.drop (i - a + 1) := by rw [show i + 1 - a = i - a + 1 by omega]
      rw [hS, hdrop] at hr
      obtain ⟨T, hT⟩ : ∃ T, A.drop (i - a + 1) ++ Y = T := ⟨_, rfl⟩
      have hr' : RowI base g n cap (X ++ S ++ x :: T) wr := by rw [← hT]; exact hr
      have hstart : InIns (ltc cf) X S T x i (X ++ S ++ x :: T) := ⟨S, [], by simp, by have := HA.out; omega, by simp, by simp⟩
      have HN := Lib.hid hnext
      have HD := Lib.hid hdrop'
      have HT := Lib.hid hT
      have HS := Lib.hid hSa
      have HSQ := Lib.hid hSQ
      have HR' := Lib.hid hr'
      have HST := Lib.hid hstart
      have HG := Lib.hid hg
      clear hx hdrop htake hS hSl hSa hSQ hnext hdrop' hr hT hr' hstart hg
      go_wp2
      go_loopw [9] (fun jv wr => ∃ (j : Nat) (D : List Int), a ≤ j ∧ j ≤ i ∧ jv = .int .i64 j ∧ InIns (ltc cf) X S T x j D ∧ RowI base g n cap D wr ∧ w.grownBy wr (some g)) (fun jv _ => (intOf jv).toNat)
      case atStart => exact ⟨i, _, by omega, by omega, rfl, HST.out, HR'.out, HG.out⟩
      case round =>
        obtain ⟨j, D, hj1, hj2, rfl, hI, hrow, hgr⟩ := hrel
        have done : (j = a ∨ ∃ y, D[j - 1]? = some y ∧ ltc cf x y = false) → D = X ++ srt (ltc cf) (A.take (i + 1 - a)) ++ (A.drop (i + 1 - a) ++ Y) := fun h => by
          rw [HN.out, HD.out, HT.out]
          exact hI.out HW.out HS.out (h.imp (fun h => by rw [HA.out]; exact h) id)
        have DONE := Lib.hid done
        clear done
        by_cases hja : a < j
        · obtain ⟨P, y, R, hD, hP, hstep⟩ := hI.step (by rw [HA.out]; exact hja)
          have hyQ : Q y := hI.mem HSQ.out (by rw [HA.out]; exact hja) (y := y) (by rw [hD, show j - 1 = P.length by omega]; exact (get_pair P R y x).1)
          have hy1 : D[j - 1]? = some y := by rw [hD, show j - 1 = P.length by omega]; exact (get_pair P R y x).1
          obtain ⟨jp, hjp⟩ : ∃ jp, jp = P.length := ⟨_, rfl⟩
          rw [← hjp] at hP hstep
          obtain rfl : j = jp + 1 := by omega
          have HDD := Lib.hid hD
          rw [hD] at hrow
          obtain ⟨cp, fp⟩ := hrow.at_ (get_pair P R y x).1
          obtain ⟨cj, fj⟩ := hrow.at_ (get_pair P R y x).2
          rw [← hjp] at cp fp cj fj
          have jz : (jp : Int) + 1 < (n : Int) := by omega
          have jz1 : (jp : Int) < (n : Int) := by omega
          have p0 : (0 : Int) ≤ (jp : Int) + 1 := by omega
          have e0 : ((jp : Int) + 1).toNat = jp + 1 := by omega
          have hjaz : (a : Int) < (jp : Int) + 1 := by omega
          have hw1 : IntKind.i64.wrap (jp : Int) = (jp : Int) := by rw [IntKind.wrap_i64]; omega
          have hc := fun q => HC.out (wr.drewN q) (gdrew hgr q) x y hxQ hyQ
          obtain ⟨c, hcf⟩ : ∃ c, cf x y = c := ⟨_, rfl⟩
          simp only [hcf] at hc
          have HCF := Lib.hid hcf
          have HI := Lib.hid hI
          have HJP := Lib.hid hjp
          have HP := Lib.hid hP
          have HST2 := Lib.hid hstep
          have HROW := Lib.hid hrow
          have HGR := Lib.hid hgr
          have HY1 := Lib.hid hy1
          clear hcf hI hjp hstep hD hrow hgr hyQ hy1 hP
          by_cases hneg : c < 0
          · have hlt1 : ltc cf x y = true := by unfold ltc; rw [HCF.out]; exact decide_eq_true hneg
            have HL1 := Lib.hid hlt1
            clear hlt1
            go_wp2_with fail
            go_quiet ((go_at_fn F; exact Calls.quiet_of (hc _)))
            go_wp2_with fail
            have cp2 : (wr.drewN nq).cell? ⟨g, jp, none⟩ = some (.int .i64 y) := cp
            have cj2 : (wr.drewN nq).cell? ⟨g, jp + 1, none⟩ = some (.int .i64 x) := cj
            have fp2 : (wr.drewN nq).frozen? ⟨g, jp, none⟩ = false := fp
            have fj2 : (wr.drewN nq).frozen? ⟨g, jp + 1, none⟩ = false := fj
            have HROW2 := Lib.hid (HROW.out.drewN nq)
            have HGR2 := Lib.hid (gdrew HGR.out nq)
            clear cp cj fp fj hc HROW HGR
            generalize wr.drewN nq = wq at cp2 cj2 fp2 fj2 HROW2 HGR2 ⊢
            obtain ⟨j1, hj1⟩ : ∃ j1, j1 = jp + 1 := ⟨_, rfl⟩
            rw [← hj1] at cj2 fj2 e0
            have J1 := Lib.hid hj1
            clear hj1
            go_region
            all_goals go_wp2
            go_roundw
            case rel =>
              have hx := HROW2.out.nbr 1 HJP.out.symm J1.out
              exact ⟨jp, _, by omega, by omega, by first | rfl | go_num | (congr 1; omega), HST2.out HL1.out, hx.1, gtrans HGR2.out hx.2⟩
            case measure => simp [intOf]
          · have hlt1 : ltc cf x y = false := by unfold ltc; rw [HCF.out]; exact decide_eq_false hneg
            have hfin := DONE.out (.inr ⟨y, HY1.out, hlt1⟩)
            have HF := Lib.hid hfin
            have HRD := Lib.hid HI
            clear hlt1 hfin
            go_wp2_with fail
            go_quiet ((go_at_fn F; exact Calls.quiet_of (hc _)))
            go_wp2
            go_roundw
            case rel => exact ⟨i + 1, by omega, by omega, by go_num, by rw [← HF.out, HDD.out]; exact HROW.out.drewN nq, gdrew HGR.out nq⟩
            case measure => simp [intOf]; omega
        · obtain rfl : j = a := by omega
          have HF := Lib.hid (DONE.out (.inl rfl))
          have HROW := Lib.hid hrow
          have HGR := Lib.hid hgr
          clear DONE hI hrow hgr hja
          have hd : decide ((j : Int) < (j : Int)) = false := by simp
          go_wp2_with fail
          go_quiet (fail)
          go_wp2
          go_roundw
          case rel => exact ⟨i + 1, by omega, by omega, by go_num, by rw [← HF.out]; exact HROW.out.drewN nq, gdrew HGR.out nq⟩
          case measure => simp [intOf]; omega
    · have hd : ¬ (i : Int) < (b : Int) := by omega
      have hfin : X ++ srt (ltc cf) (A.take (i - a)) ++ (A.drop (i - a) ++ Y) = X ++ srt (ltc cf) A ++ Y := by
        rw [List.take_of_length_le (by have := HB.out; omega), List.drop_of_length_le (by have := HB.out; omega), List.nil_append]
      rw [hfin] at hr
      have HR2 := Lib.hid hr
      have HG2 := Lib.hid hg
      clear hfin hr hg
      go_wp2
      go_end0
      exact ⟨rfl, by simpa using HR2.out, HG2.out⟩
def sumI : List Int → Int
  | [] => 0
  | x :: L => x + sumI L
theorem sumI_append (A B : List Int) : sumI (A ++ B) = sumI A + sumI B := by
  induction A with
  | nil => simp [sumI]
  | cons x A ih => simp only [List.cons_append, sumI, ih]; omega
def wgB (w : Int) : Bool := inB w 0 1000000
/-- the error of a division into parts -/
def partsE (t : Int) (W : List Int) : Int :=
  if inB t 0 1000000000000 then (if W.any (fun w => !wgB w) then 2 else if 200 < W.length then 3 else if sumI W = 0 then 1 else 0) else 2
def baseP (t s : Int) (W : List Int) : List Int := W.map fun w => t * w / s
def rstP (t s : Int) (W : List Int) : List Int := W.map fun w => t * w % s
def rAt (t s : Int) (W : List Int) (i : Int) : Int := (rstP t s W).getD i.toNat 0
def cfP (t s : Int) (W : List Int) (i k : Int) : Int := cmpIY (rAt t s W k) (rAt t s W i)
def idxs (n : Nat) : List Int := (List.range n).map fun j : Nat => (j : Int)
def ordP (t s : Int) (W : List Int) : List Int := srt (ltc (cfP t s W)) (idxs W.length)
def leftP (t s : Int) (W : List Int) : Int := t - sumI (baseP t s W)
/-- one more at some places -/
def bump : List Int → List Int → List Int
  | L, [] => L
  | L, i :: I => bump (L.set i.toNat (L.getD i.toNat 0 + 1)) I
def partsR (t s : Int) (W : List Int) : List Int := bump (baseP t s W) ((ordP t s W).take (leftP t s W).toNat)
def partsL (t : Int) (W : List Int) : List Int := if partsE t W = 0 then partsR t (sumI W) W else []
theorem bump_append : ∀ (L I J : List Int), bump L (I ++ J) = bump (bump L I) J
  | L, [], J => rfl
  | L, i :: I, J => by rw [List.cons_append, bump, bump, bump_append]
theorem bump_length : ∀ (L I : List Int), (bump L I).length = L.length
  | L, [] => rfl
  | L, i :: I => by rw [bump, bump_length, List.length_set]
theorem bump_bd : ∀ (L I : List Int) {B : Int}, (∀ x ∈ L, 0 ≤ x ∧ x ≤ B) → ∀ x ∈ bump L I, 0 ≤ x ∧ x ≤ B + I.length
  | L, [], B, h => fun x hx => by have := h x hx; simp; omega
  | L, i :: I, B, h => fun x hx => by
    rw [bump] at hx
    have key : ∀ y ∈ L.set i.toNat (L.getD i.toNat 0 + 1), 0 ≤ y ∧ y ≤ B + 1 := fun y hy => by
      by_cases hi : i.toNat < L.length
      · rcases List.mem_or_eq_of_mem_set hy with hy | hy
        · have := h y hy; omega
        · have := h _ (List.getElem_mem hi)
          rw [show L.getD i.toNat 0 = L[i.toNat] by simp [List.getD_eq_getElem?_getD, hi]] at hy
          omega
      · rw [List.set_eq_of_length_le (by omega)] at hy
        have := h y hy; omega
    have := bump_bd (L.set i.toNat (L.getD i.toNat 0 + 1)) I key x hx
    simp only [List.length_cons]; omega
theorem ltP_wk (f : Int → Int) : Wk (ltc fun i k => cmpIY (f k) (f i)) := by
  have e : ∀ i k, ltc (fun i k => cmpIY (f k) (f i)) i k = decide (f k < f i) := fun i k => by
    show decide ((if f k < f i then -1 else if f i < f k then 1 else 0 : Int) < 0) = decide (f k < f i)
    rw [decide_eq_decide]
    repeat' split
    all_goals omega
  constructor
  · intro x y h; rw [e] at h ⊢; simp at h ⊢; omega
  · intro x y z h k; rw [e] at h k ⊢; simp at h k ⊢; omega
theorem cfP_wk (t s : Int) (W : List Int) : Wk (ltc (cfP t s W)) := ltP_wk (rAt t s W)
theorem idxs_length (n : Nat) : (idxs n).length = n := by simp [idxs]
theorem idxs_get {n k : Nat} (h : k < n) : (idxs n)[k]? = some (k : Int) := by simp [idxs, h]
theorem idxs_mem {n : Nat} {x : Int} (h : x ∈ idxs n) : 0 ≤ x ∧ x < n := by
  simp only [idxs, List.mem_map, List.mem_range] at h
  obtain ⟨j, hj, rfl⟩ := h
  omega
theorem idxs_succ (n : Nat) : idxs (n + 1) = idxs n ++ [(n : Int)] := by simp [idxs, List.range_succ]
theorem ordP_mem {t s : Int} {W : List Int} {x : Int} (h : x ∈ ordP t s W) : 0 ≤ x ∧ x < W.length := idxs_mem ((srt_mem _ _).1 h)
theorem ordP_length (t s : Int) (W : List Int) : (ordP t s W).length = W.length := by rw [ordP, srt_length, idxs_length]
theorem sum_split (t s : Int) : ∀ W : List Int, s * sumI (baseP t s W) + sumI (rstP t s W) = t * sumI W
  | [] => by simp [baseP, rstP, sumI]
  | w :: W => by
    have ih := sum_split t s W
    simp only [baseP, rstP, List.map_cons, sumI] at ih ⊢
    have := Int.mul_ediv_add_emod (t * w) s
    rw [Int.mul_add, Int.mul_add]; omega
theorem rst_bd {t s : Int} (hs : 0 < s) : ∀ W : List Int, 0 ≤ sumI (rstP t s W) ∧ sumI (rstP t s W) ≤ W.length * (s - 1)
  | [] => by simp [rstP, sumI]
  | w :: W => by
    have ih := rst_bd hs (t := t) W
    simp only [rstP, List.map_cons, sumI, List.length_cons] at ih ⊢
    have h1 := Int.emod_nonneg (t * w) (show s ≠ 0 by omega)
    have h2 := Int.emod_lt_of_pos (t * w) hs
    have : ((W.length + 1 : Nat) : Int) * (s - 1) = (W.length : Int) * (s - 1) + (s - 1) := by
      rw [show ((W.length + 1 : Nat) : Int) = (W.length : Int) + 1 by omega, Int.add_mul, Int.one_mul]
    omega
theorem sumI_nonneg : ∀ {L : List Int}, (∀ x ∈ L, 0 ≤ x) → 0 ≤ sumI L
  | [], _ => by simp [sumI]
  | x :: L, h => by
    have := sumI_nonneg (fun y hy => h y (List.mem_cons_of_mem _ hy))
    have := h x (List.mem_cons_self ..)
    simp only [sumI]; omega
theorem sumI_le : ∀ {L : List Int} {B : Int}, (∀ x ∈ L, x ≤ B) → sumI L ≤ L.length * B
  | [], B, _ => by simp [sumI]
  | x :: L, B, h => by
    have h1 := sumI_le (fun y hy => h y (List.mem_cons_of_mem _ hy))
    have h2 := h x (List.mem_cons_self ..)
    have : ((L.length + 1 : Nat) : Int) * B = (L.length : Int) * B + B := by
      rw [show ((L.length + 1 : Nat) : Int) = (L.length : Int) + 1 by omega, Int.add_mul, Int.one_mul]
    simp only [sumI, List.length_cons]; omega
theorem sumI_mem {L : List Int} {w : Int} (h : ∀ x ∈ L, 0 ≤ x) (hw : w ∈ L) : w ≤ sumI L := by
  induction L with
  | nil => simp at hw
  | cons x L ih =>
    have h1 := sumI_nonneg (fun y hy => h y (List.mem_cons_of_mem _ hy))
    have h2 := h x (List.mem_cons_self ..)
    simp only [sumI]
    rcases List.mem_cons.1 hw with rfl | hw
    · omega
    · have := ih (fun y hy => h y (List.mem_cons_of_mem _ hy)) hw; omega
theorem left_bd {t : Int} {W : List Int} (h0 : 0 ≤ t) (hs : 0 < sumI W) : 0 ≤ leftP t (sumI W) W ∧ leftP t (sumI W) W < W.length := by
  have e := sum_split t (sumI W) W
  obtain ⟨r0, r1⟩ := rst_bd (t := t) hs W
  obtain ⟨B, hB⟩ : ∃ B, sumI (baseP t (sumI W) W) = B := ⟨_, rfl⟩
  obtain ⟨s, hS⟩ : ∃ s, sumI W = s := ⟨_, rfl⟩
  obtain ⟨R, hR⟩ : ∃ R, sumI (rstP t (sumI W) W) = R := ⟨_, rfl⟩
  unfold leftP
  rw [hB]
  rw [hR] at e r0 r1
  rw [hB] at e
  rw [hS] at e r1 hs
  have e2 : s * (t - B) = R := by rw [Int.mul_sub, Int.mul_comm s t]; omega
  obtain ⟨x, hx⟩ : ∃ x, t - B = x := ⟨_, rfl⟩
  rw [hx] at e2 ⊢
  have hl : 0 < W.length := by
    cases W with
    | nil => simp [sumI] at hS; omega
    | cons => simp
  constructor
  · rcases Int.lt_or_le x 0 with h | h
    · have := Int.mul_neg_of_pos_of_neg hs h; omega
    · exact h
  · rcases Int.lt_or_le x W.length with h | h
    · exact h
    · have h1 := Int.mul_le_mul_of_nonneg_left h (show 0 ≤ s by omega)
      have h2 : (W.length : Int) * (s - 1) = W.length * s - W.length := by rw [Int.mul_sub, Int.mul_one]
      rw [Int.mul_comm s (W.length : Int)] at h1
      omega
theorem base_bd {t : Int} {W : List Int} (h0 : 0 ≤ t) (hs : 0 < sumI W) (hw : ∀ w ∈ W, 0 ≤ w) : ∀ x ∈ baseP t (sumI W) W, 0 ≤ x ∧ x ≤ t := by
  intro x hx
  simp only [baseP, List.mem_map] at hx
  obtain ⟨w, hwm, rfl⟩ := hx
  have h1 := hw w hwm
  have h2 := sumI_mem hw hwm
  have h3 := Int.mul_nonneg h0 h1
  refine ⟨Int.ediv_nonneg h3 (by omega), ?_⟩
  have h4 := Int.mul_le_mul_of_nonneg_left h2 h0
  exact Int.le_trans (Int.ediv_le_ediv hs h4) (by rw [Int.mul_ediv_cancel _ (by omega)]; exact Int.le_refl _)
theorem sum_base_take {t : Int} {W : List Int} (h0 : 0 ≤ t) (hs : 0 < sumI W) (hw : ∀ w ∈ W, 0 ≤ w) (k : Nat) : 0 ≤ sumI ((baseP t (sumI W) W).take k) ∧ sumI ((baseP t (sumI W) W).take k) ≤ t := by
  have hb := base_bd h0 hs hw
  have h1 := left_bd h0 hs
  unfold leftP at h1
  have e : sumI ((baseP t (sumI W) W).take k) + sumI ((baseP t (sumI W) W).drop k) = sumI (baseP t (sumI W) W) := by rw [← sumI_append, List.take_append_drop]
  have h2 := sumI_nonneg (L := (baseP t (sumI W) W).take k) (fun x hx => (hb x (List.mem_of_mem_take hx)).1)
  have h3 := sumI_nonneg (L := (baseP t (sumI W) W).drop k) (fun x hx => (hb x (List.mem_of_mem_drop hx)).1)
  omega
theorem sum_take {W : List Int} (hw : ∀ w ∈ W, 0 ≤ w ∧ w ≤ 1000000) (k : Nat) : 0 ≤ sumI (W.take k) ∧ sumI (W.take k) ≤ W.length * 1000000 := by
  refine ⟨sumI_nonneg fun x hx => (hw x (List.mem_of_mem_take hx)).1, ?_⟩
  have := sumI_le (L := W.take k) (B := 1000000) (fun x hx => (hw x (List.mem_of_mem_take hx)).2)
  have h2 : (W.take k).length ≤ W.length := by rw [List.length_take]; omega
  omega
theorem wg_all {W : List Int} (h : W.any (fun w => !wgB w) = false) : ∀ w ∈ W, 0 ≤ w ∧ w ≤ 1000000 := by
  intro w hw
  have := List.any_eq_false.1 h w hw
  simp only [Bool.not_eq_true', Bool.not_eq_false, wgB] at this
  exact inB_iff.1 this
theorem ret_ab {a b a' b' : Int} (h : a = a' ∧ b = b') : Ending.returned (.tuple #[.int .i64 a, .int .i64 b]) = .returned (.tuple #[.int .i64 a', .int .i64 b']) := by
  obtain ⟨rfl, rfl⟩ := h; rfl
theorem weight_any (n : Int) (w : World) : Calls Tryz.prog 227 #[.int .i64 n] w fun e w' => e = .returned (.bool (inB n 0 1000000)) ∧ w = w' := by
  go_enter Tryz.func227, Tryz.ntmps227
  go_wp2
  all_goals (go_ret; exact ⟨ret_bool (by simp only [inB]; first | (rw [Bool.eq_iff_iff]; simp; omega) | (simp; omega)), rfl⟩)
/-- a number if it is an amount -/
def ckV (n : Int) : Int := if inB n 0 1000000000000 then n else 0
def ckE (n : Int) : Int := if inB n 0 1000000000000 then 0 else 2
theorem checked_any (n : Int) (w : World) : Calls Tryz.prog 228 #[.int .i64 n] w fun e w' => e = .returned (.tuple #[.int .i64 (ckV n), .int .i64 (ckE n)]) ∧ w = w' := by
  unfold ckV ckE
  cases h : inB n 0 1000000000000
  all_goals
    go_enter Tryz.func228, Tryz.ntmps228
    go_wp2_with (go_at_call 221; refine (valid_any _ _).mono ?_; rw [h]; rintro e w' ⟨rfl, rfl⟩)
    go_ret2
    exact ⟨rfl, rfl⟩
/-- a share -/
def shOk (a n d : Int) : Bool := inB a 0 1000000000000 && inB n 0 1000000 && inB d 0 1000000 && d != 0
def shV (a n d : Int) : Int := if shOk a n d then ckV ((2 * a * n + d) / (2 * d)) else 0
def shE (a n d : Int) : Int := if shOk a n d then ckE ((2 * a * n + d) / (2 * d)) else 2
theorem shOk_iff {a n d : Int} : shOk a n d = true ↔ (0 ≤ a ∧ a ≤ 1000000000000) ∧ (0 ≤ n ∧ n ≤ 1000000) ∧ (1 ≤ d ∧ d ≤ 1000000) := by
  simp only [shOk, Bool.and_eq_true, inB_iff, bne_iff_ne, ne_eq]
  omega
set_option maxHeartbeats 400000 in
theorem share_any (a n d : Int) (w : World) : Calls Tryz.prog 128 #[.int .i64 a, .int .i64 n, .int .i64 d] w fun e w' => e = .returned (.tuple #[.int .i64 (shV a n d), .int .i64 (shE a n d)]) ∧ w = w' := by
  unfold shV shE
  cases h : shOk a n d
  · cases h1 : inB a 0 1000000000000
    · simp only [Bool.false_eq_true, if_false]
      clear h
      go_enter Tryz.func128, Tryz.ntmps128
      go_wp2_with (go_at_call 221; refine (valid_any _ _).mono ?_; rw [h1]; rintro e w' ⟨rfl, rfl⟩)
      go_ret2
      exact ⟨rfl, rfl⟩
    cases h2 : inB n 0 1000000
    · simp only [Bool.false_eq_true, if_false]
      clear h
      go_enter Tryz.func128, Tryz.ntmps128
      go_wp2_with (first | (go_at_call 221; refine (valid_any _ _).mono ?_; rw [h1]; rintro e w' ⟨rfl, rfl⟩) | (go_at_call 227; refine (weight_any _ _).mono ?_; rintro e w' ⟨rfl, rfl⟩))
      go_ret2
      exact ⟨rfl, rfl⟩
    cases h3 : inB d 0 1000000
    · simp only [Bool.false_eq_true, if_false]
      clear h
      go_enter Tryz.func128, Tryz.ntmps128
      go_wp2_with (first | (go_at_call 221; refine (valid_any _ _).mono ?_; rw [h1]; rintro e w' ⟨rfl, rfl⟩) | (go_at_call 227; refine (weight_any _ _).mono ?_; rintro e w' ⟨rfl, rfl⟩))
      go_ret2
      exact ⟨rfl, rfl⟩
    have h4 : (d == 0) = true := by
      simpa [shOk, h1, h2, h3] using h
    simp only [Bool.false_eq_true, if_false]
    clear h
    go_enter Tryz.func128, Tryz.ntmps128
    go_wp2_with (first | (go_at_call 221; refine (valid_any _ _).mono ?_; rw [h1]; rintro e w' ⟨rfl, rfl⟩) | (go_at_call 227; refine (weight_any _ _).mono ?_; rintro e w' ⟨rfl, rfl⟩))
    go_ret2
    exact ⟨rfl, rfl⟩
  · obtain ⟨⟨a0, a1⟩, ⟨n0, n1⟩, d0, d1⟩ := shOk_iff.1 h
    have h1 := inB_iff.2 ⟨a0, a1⟩
    have h2 := inB_iff.2 ⟨n0, n1⟩
    have h3 := inB_iff.2 ⟨show 0 ≤ d by omega, d1⟩
    have h4 : (d == 0) = false := by simp; omega
    obtain ⟨p0, p1⟩ := mul_bd (show 0 ≤ 2 * a by omega) (show 2 * a ≤ 2000000000000 by omega) n0 n1
    have q0 : 0 ≤ (2 * a * n + d) / (2 * d) := Int.ediv_nonneg (by omega) (by omega)
    have q1 : (2 * a * n + d) / (2 * d) ≤ 2 * a * n + d := Int.ediv_le_self _ (by omega)
    simp only [if_true]
    clear h
    go_enter Tryz.func128, Tryz.ntmps128
    go_wp2_with (first | (go_at_call 221; refine (valid_any _ _).mono ?_; rw [h1]; rintro e w' ⟨rfl, rfl⟩) | (go_at_call 227; refine (weight_any _ _).mono ?_; rintro e w' ⟨rfl, rfl⟩) | (go_at_call 228; refine (checked_any _ _).mono ?_; rintro e w' ⟨rfl, rfl⟩))
    go_ret2
    exact ⟨rfl, rfl⟩
/-- the place of the first element with p, or -1 -/
def idxIY {α : Type} (p : α → Bool) : List α → Int
  | [] => -1
  | x :: L => if p x then 0 else if idxIY p L < 0 then -1 else idxIY p L + 1
theorem idxI_none {α : Type} {p : α → Bool} : ∀ {L : List α}, (∀ y ∈ L, p y = false) → idxIY p L = -1
  | [], _ => rfl
  | x :: L, h => by
    rw [idxIY, h x (List.mem_cons_self ..), if_neg (by simp), idxI_none (fun y hy => h y (List.mem_cons_of_mem _ hy))]; rfl
theorem idxI_some {α : Type} {p : α → Bool} : ∀ {L : List α} {k : Nat} {x : α}, L[k]? = some x → p x = true → (∀ y ∈ L.take k, p y = false) → idxIY p L = k
  | [], k, x, h, _, _ => by simp at h
  | z :: L, 0, x, h, hp, _ => by
    simp only [List.getElem?_cons_zero, Option.some.injEq] at h
    subst h
    rw [idxIY, hp]; rfl
  | z :: L, k + 1, x, h, hp, hk => by
    simp only [List.getElem?_cons_succ] at h
    have ih := idxI_some h hp (fun y hy => hk y (by simp [hy]))
    rw [idxIY, hk z (by simp), if_neg (by simp), ih, if_neg (by omega)]; rfl
theorem idxI_any {α : Type} (p : α → Bool) (L : List α) : decide (0 ≤ idxIY p L) = L.any p := by
  induction L with
  | nil => rfl
  | cons x L ih =>
    rw [idxIY, List.any_cons]
    cases hp : p x
    · rw [if_neg (by simp), Bool.false_or, ← ih]
      by_cases h : idxIY p L < 0
      · rw [if_pos h]; simp; omega
      · rw [if_neg h]; simp; omega
    · rw [if_pos rfl]; simp
theorem take_false {α : Type} {p : α → Bool} {L : List α} {k : Nat} {x : α} (h : L[k]? = some x) (hp : p x = false) (hk : ∀ y ∈ L.take k, p y = false) : ∀ y ∈ L.take (k + 1), p y = false := by
  rw [take_snocZ h]
  intro y hy
  rcases List.mem_append.1 hy with hy | hy
  · exact hk y hy
  · rw [List.mem_singleton.1 hy]; exact hp
/-- the closure F, bound to cb, tells p of the elements of L -/
def Tells {α : Type} (F : Nat) (cb : Array Value) (val : α → Value) (p : α → Bool) (L : List α) (w : World) : Prop :=
  ∀ W, Below w.heap.size w W → ∀ x ∈ L, Calls Tryz.prog F (#[val x] ++ cb) W fun e w' => e = .returned (.bool (p x)) ∧ Below W.heap.size W w'
set_option maxHeartbeats 1000000 in
theorem indexI_any (F : Nat) (cb : Array Value) (p : Int → Bool) (P : Nat → Prop) (v : Value) (L : List Int) (w : World) (eg : ∀ args w, (callFunc F args).run Tryz.prog w = .ok (.enter F args) w)
    (hF : Tells F cb (Value.int .i64) p L w) (hS : Sl 1 encI P w v L) (hl : L.length ≤ 1000000) :
    Calls Tryz.prog 225 #[v, .func (.func F) #[] cb] w fun e w' => e = .returned (.int .i64 (idxIY p L)) ∧ Below w.heap.size w w' := by
  obtain ⟨ao, n, c, rfl, hn, hnc, hcm⟩ := hS.shape
  have HS := Lib.hid hS
  have HN := Lib.hid hn
  have HF := Lib.hid hF
  have hn1 : n ≤ 1000000 := by omega
  clear hS hF hn
  go_enter Tryz.func225, Tryz.ntmps225
  go_wp2
  go_loopw [8] (fun iv wr => ∃ k : Nat, k ≤ n ∧ iv = .int .i64 k ∧ (∀ y ∈ L.take k, p y = false) ∧ Below w.heap.size w wr) (fun iv _ => n - (intOf iv).toNat)
  case atStart => exact ⟨0, by omega, rfl, by simp, brefl⟩
  case round =>
    obtain ⟨k, hk, rfl, hall, hbr⟩ := hrel
    have HA := Lib.hid hall
    have HBR := Lib.hid hbr
    by_cases hlt : k < n
    · obtain ⟨b, off, x, rfl, -, -, hx, hc⟩ := (HS.out.below hbr).int hlt
      have hcl := fun W (hW : Below wr.heap.size wr W) => HF.out W (bup hbr hW) x (List.mem_of_getElem? hx)
      have HX := Lib.hid hx
      obtain ⟨b0, hb0⟩ : ∃ b0, p x = b0 := ⟨_, rfl⟩
      rw [hb0] at hcl
      have HB0 := Lib.hid hb0
      clear hall hbr hx hb0
      cases b0
      · have hstep := Lib.hid (take_false HX.out HB0.out HA.out)
        go_wp2_with ((go_at_fn F; refine (hcl _ brefl).mono ?_; rintro e w1 ⟨rfl, hb1⟩))
        go_roundw
        case rel => exact ⟨k + 1, by omega, by go_num, hstep.out, bup HBR.out hb1⟩
        case measure => simp [intOf]; omega
      · have hfin := Lib.hid (idxI_some HX.out HB0.out HA.out)
        go_wp2_with ((go_at_fn F; refine (hcl _ brefl).mono ?_; rintro e w1 ⟨rfl, hb1⟩))
        go_ret
        exact ⟨ret_int hfin.out.symm, bup HBR.out hb1⟩
    · have hfin := Lib.hid (idxI_none (p := p) (L := L) (fun y hy => HA.out y (by rw [take_all (by have := HN.out; omega)]; exact hy)))
      clear hall hbr
      go_wp2
      go_ret
      exact ⟨ret_int hfin.out.symm, HBR.out⟩
theorem containsI_any (F : Nat) (cb : Array Value) (p : Int → Bool) (P : Nat → Prop) (v : Value) (L : List Int) (w : World) (eg : ∀ args w, (callFunc F args).run Tryz.prog w = .ok (.enter F args) w)
    (hF : Tells F cb (Value.int .i64) p L w) (hS : Sl 1 encI P w v L) (hl : L.length ≤ 1000000) :
    Calls Tryz.prog 125 #[v, .func (.func F) #[] cb] w fun e w' => e = .returned (.bool (L.any p)) ∧ Below w.heap.size w w' := by
  have HC := Lib.hid (indexI_any F cb p P v L w eg hF hS hl)
  have hf := idxI_any p L
  obtain ⟨i, hi⟩ : ∃ i, idxIY p L = i := ⟨_, rfl⟩
  rw [hi] at HC hf
  rw [← hf]
  clear hf hi hF hS
  go_enter Tryz.func125, Tryz.ntmps125
  go_wp2_with (go_at_call 225; refine HC.out.mono ?_; rintro e w1 ⟨rfl, hb1⟩)
  go_ret
  exact ⟨rfl, hb1⟩
theorem get_at {α : Type} (P R : List α) (x : α) {j : Nat} (h : P.length = j) : (P ++ x :: R)[j]? = some x := by subst h; simp
/-- an exchange of two places -/
theorem set_two {α : Type} (P M R : List α) (x y a b : α) {i j : Nat} (hi : P.length = i) (hj : i + 1 + M.length = j) : ((P ++ x :: (M ++ y :: R)).set i a).set j b = P ++ a :: (M ++ b :: R) := by
  subst hi
  rw [List.set_append_right _ _ (by omega), Nat.sub_self, List.set_cons_zero, List.set_append_right _ _ (by omega), show j - P.length = (j - P.length - 1) + 1 by omega, List.set_cons_succ, List.set_append_right _ _ (by omega), show j - P.length - 1 - M.length = 0 by omega, List.set_cons_zero]
theorem RowI.two {base g n cap : Nat} {P M R : List Int} {x y : Int} {w : World} (h : RowI base g n cap (P ++ x :: (M ++ y :: R)) w) (q : Nat) {i j : Nat} (hi : P.length = i) (hj : i + 1 + M.length = j) :
    RowI base g n cap (P ++ y :: (M ++ x :: R)) (((w.setCell ⟨g, i, none⟩ (.int .i64 y)).setCell ⟨g, j, none⟩ (.int .i64 x)).drewN q) ∧ w.grownBy (((w.setCell ⟨g, i, none⟩ (.int .i64 y)).setCell ⟨g, j, none⟩ (.int .i64 x)).drewN q) (some g) := by
  have := h.swap i j y x q
  rwa [set_two P M R x y y x hi hj] at this
set_option maxHeartbeats 4000000 in
set_option maxRecDepth 100000 in
theorem swapR_any (fv : Value) (base g n cap a b k : Nat) (X U M V Y : List Int) (w : World)
    (hrow : RowI base g n cap (X ++ U ++ M ++ V ++ Y) w) (ha : X.length = a) (hU : U.length = k) (hb : a + k + M.length = b) (hV : V.length = k) (hn : n ≤ 1000000000) :
    Calls Tryz.prog 366 #[.slice (some ⟨g, 0, none⟩) n cap, .int .i64 a, .int .i64 b, .int .i64 k, fv] w fun e w' => e = .returned (.tuple #[]) ∧ RowI base g n cap (X ++ V ++ M ++ U ++ Y) w' ∧ w.grownBy w' (some g) := by
  have hlen : X.length + U.length + M.length + V.length + Y.length = n := by have := hrow.2; simp at this; omega
  have hbn : b + k ≤ n := by omega
  have hab : a + k ≤ b := by omega
  have HA := Lib.hid ha
  have HU := Lib.hid hU
  have HB := Lib.hid hb
  have HV := Lib.hid hV
  have HR := Lib.hid hrow
  clear hrow hlen ha hU hb hV
  go_enter Tryz.func366, Tryz.ntmps366
  go_wp2
  go_loopw [10] (fun iv wr => ∃ i : Nat, i ≤ k ∧ iv = .int .i64 i ∧ RowI base g n cap (X ++ V.take i ++ U.drop i ++ M ++ U.take i ++ V.drop i ++ Y) wr ∧ w.grownBy wr (some g)) (fun iv _ => k - (intOf iv).toNat)
  case atStart => exact ⟨0, by omega, rfl, by simpa using HR.out, grefl _ _⟩
  case round =>
    obtain ⟨i, hi, rfl, hr, hg⟩ := hrel
    by_cases hlt : i < k
    · obtain ⟨x, hx⟩ : ∃ x, U[i]? = some x := ⟨_, List.getElem?_eq_getElem (by have := HU.out; omega)⟩
      obtain ⟨y, hy⟩ : ∃ y, V[i]? = some y := ⟨_, List.getElem?_eq_getElem (by have := HV.out; omega)⟩
      have e1 : X ++ V.take i ++ U.drop i ++ M ++ U.take i ++ V.drop i ++ Y = (X ++ V.take i) ++ x :: ((U.drop (i + 1) ++ M ++ U.take i) ++ y :: (V.drop (i + 1) ++ Y)) := by
        rw [drop_cons hx, drop_cons hy]; simp
      have e2 : (X ++ V.take i) ++ y :: ((U.drop (i + 1) ++ M ++ U.take i) ++ x :: (V.drop (i + 1) ++ Y)) = X ++ V.take (i + 1) ++ U.drop (i + 1) ++ M ++ U.take (i + 1) ++ V.drop (i + 1) ++ Y := by
        rw [take_snocZ hx, take_snocZ hy]; simp
      obtain ⟨P, hP⟩ : ∃ P, X ++ V.take i = P := ⟨_, rfl⟩
      obtain ⟨M', hM⟩ : ∃ M', U.drop (i + 1) ++ M ++ U.take i = M' := ⟨_, rfl⟩
      obtain ⟨R, hR⟩ : ∃ R, V.drop (i + 1) ++ Y = R := ⟨_, rfl⟩
      have hPl : P.length = a + i := by rw [← hP, List.length_append, List.length_take]; have := HA.out; have := HV.out; omega
      have hMl : a + i + 1 + M'.length = b + i := by
        rw [← hM, List.length_append, List.length_append, List.length_take, List.length_drop]; have := HU.out; have := HB.out; omega
      rw [e1, hP, hM, hR] at hr
      rw [hP, hM, hR] at e2
      obtain ⟨cx, fx⟩ := hr.at_ (get_at P _ x hPl)
      obtain ⟨cy, fy⟩ := hr.at_ (j := b + i) (x := y) (by
        have := get_at (P ++ x :: M') R y (j := b + i) (by simp; omega)
        simpa using this)
      have HE := Lib.hid e2
      have HPL := Lib.hid hPl
      have HML := Lib.hid hMl
      have HROW := Lib.hid hr
      have HG := Lib.hid hg
      clear hx hy e1 e2 hP hM hR hPl hMl hr hg
      have z1 : (a : Int) + i < n := by omega
      have z2 : (b : Int) + i < n := by omega
      have q1 : (0 : Int) ≤ (a : Int) + i := by omega
      have q2 : (0 : Int) ≤ (b : Int) + i := by omega
      have t1 : ((a : Int) + i).toNat = a + i := by omega
      have t2 : ((b : Int) + i).toNat = b + i := by omega
      have v1 : IntKind.i64.wrap ((a : Int) + i) = (a : Int) + i := by rw [IntKind.wrap_i64]; omega
      have v2 : IntKind.i64.wrap ((b : Int) + i) = (b : Int) + i := by rw [IntKind.wrap_i64]; omega
      obtain ⟨p, hp⟩ : ∃ p, p = a + i := ⟨_, rfl⟩
      obtain ⟨r, hr⟩ : ∃ r, r = b + i := ⟨_, rfl⟩
      rw [← hp] at cx fx t1
      rw [← hr] at cy fy t2
      have hpr : p ≠ r := by omega
      have HPI := Lib.hid hp
      have HRI := Lib.hid hr
      clear hp hr
      go_wp2_with fail
      obtain ⟨u', hu'⟩ := cell?_setCell_some (w := wr) (p := ⟨g, p, none⟩) (x := .int .i64 y) (q := ⟨g, r, none⟩) (v := .int .i64 y) (by go_simp)
      go_region
      all_goals go_wp2
      go_roundw
      case rel =>
        have hx := HROW.out.two 1 HPL.out HML.out
        rw [← HPI.out, ← HRI.out] at hx
        exact ⟨i + 1, by omega, by go_num, by rw [← HE.out]; exact hx.1, gtrans HG.out hx.2⟩
      case measure => simp [intOf]; omega
    · have hd : ¬ (i : Int) < (k : Int) := by omega
      have hfin : X ++ V.take i ++ U.drop i ++ M ++ U.take i ++ V.drop i ++ Y = X ++ V ++ M ++ U ++ Y := by
        rw [List.take_of_length_le (by have := HV.out; omega), List.drop_of_length_le (by have := HU.out; omega), List.take_of_length_le (by have := HU.out; omega), List.drop_of_length_le (by have := HV.out; omega)]
        simp
      rw [hfin] at hr
      have HR2 := Lib.hid hr
      have HG2 := Lib.hid hg
      clear hfin hr hg
      go_wp2
      go_end0
      exact ⟨rfl, by simpa using HR2.out, HG2.out⟩
set_option maxHeartbeats 4000000 in
set_option maxRecDepth 100000 in
theorem rot_any (fv : Value) (base g n cap a m b : Nat) (X U V Y : List Int) (w : World)
    (hrow : RowI base g n cap (X ++ U ++ V ++ Y) w) (ha : X.length = a) (hm : a + U.length = m) (hb : m + V.length = b) (hU : 0 < U.length) (hV : 0 < V.length) (hn : n ≤ 1000000000) :
    Calls Tryz.prog 360 #[.slice (some ⟨g, 0, none⟩) n cap, .int .i64 a, .int .i64 m, .int .i64 b, fv] w fun e w' => e = .returned (.tuple #[]) ∧ RowI base g n cap (X ++ V ++ U ++ Y) w' ∧ w.grownBy w' (some g) := by
  have hlen : X.length + U.length + V.length + Y.length = n := by have := hrow.2; simp at this; omega
  have hbn : b ≤ n := by omega
  obtain ⟨i0, hi0⟩ : ∃ i0, U.length = i0 := ⟨_, rfl⟩
  obtain ⟨j0, hj0⟩ : ∃ j0, V.length = j0 := ⟨_, rfl⟩
  rw [hi0] at hm hU
  rw [hj0] at hb hV
  have e1 : (m : Int) - a = i0 := by omega
  have e2 : (b : Int) - m = j0 := by omega
  have HA := Lib.hid ha
  have HI := Lib.hid hi0
  have HJ := Lib.hid hj0
  have HR := Lib.hid hrow
  have HM := Lib.hid hm
  have HB := Lib.hid hb
  clear hrow hlen ha hi0 hj0
  go_enter Tryz.func360, Tryz.ntmps360
  go_wp2
  go_loopw [10, 11] (fun iv jv wr => ∃ (i j : Nat) (X' U' V' Y' : List Int), iv = .int .i64 i ∧ jv = .int .i64 j ∧ U'.length = i ∧ V'.length = j ∧ 0 < i ∧ 0 < j ∧ X'.length + i = m ∧ m + j ≤ n ∧ X' ++ V' ++ U' ++ Y' = X ++ V ++ U ++ Y ∧ RowI base g n cap (X' ++ U' ++ V' ++ Y') wr ∧ w.grownBy wr (some g)) (fun iv jv _ => (intOf iv).toNat + (intOf jv).toNat)
  case atStart => exact ⟨i0, j0, X, U, V, Y, rfl, rfl, HI.out, HJ.out, hU, hV, by have := HA.out; omega, by omega, rfl, HR.out, grefl _ _⟩
  case round =>
    obtain ⟨i, j, X', U', V', Y', rfl, rfl, hU', hV', hi, hj, hX, hmj, hL, hr, hg⟩ := hrel
    clear e1 e2
    obtain ⟨p, hp⟩ : ∃ p, X'.length = p := ⟨_, rfl⟩
    rw [hp] at hX
    have ep : (m : Int) - i = p := by omega
    have HP := Lib.hid hp
    have HU := Lib.hid hU'
    have HV := Lib.hid hV'
    have HX := Lib.hid hX
    have HL := Lib.hid hL
    have HR' := Lib.hid hr
    have HG := Lib.hid hg
    clear hp hU' hV' hX hL hr hg
    by_cases hij : i = j
    · subst hij
      have hc := fun W (hW : W = wr) => swapR_any fv base g n cap p m i X' U' [] V' Y' W (by rw [hW]; simpa using HR'.out) HP.out HU.out (by have := HX.out; simp; omega) HV.out hn
      have hne : ((i : Int) != (i : Int)) = false := by simp
      go_wp2_with (go_at_call 366; refine (hc _ rfl).mono ?_; rintro e w2 ⟨rfl, hr2, hg2⟩)
      go_end0
      refine ⟨rfl, ?_, gtrans HG.out hg2⟩
      have := HL.out
      simp only [List.append_nil, List.append_assoc] at hr2 this ⊢
      rw [← this]
      exact hr2
    · have hne : ((i : Int) == (j : Int)) = false := by simp; omega
      have hne2 : ((i : Int) != (j : Int)) = true := by simp; omega
      by_cases hgt : j < i
      · obtain ⟨U1, U2, hUU, hU1⟩ : ∃ U1 U2, U' = U1 ++ U2 ∧ U1.length = j := ⟨U'.take j, U'.drop j, (List.take_append_drop _ _).symm, by rw [List.length_take]; have := HU.out; omega⟩
        have hU2 : U2.length = i - j := by have := HU.out; rw [hUU, List.length_append] at this; omega
        have hc := fun W (hW : W = wr) => swapR_any fv base g n cap p m j X' U1 U2 V' Y' W (by rw [hW]; have := HR'.out; rw [hUU] at this; simpa using this) HP.out hU1 (by have := HX.out; omega) HV.out hn
        have hL' : (X' ++ V') ++ U1 ++ U2 ++ Y' = X ++ V ++ U ++ Y := by rw [← HL.out, hUU]; simp
        have HUU := Lib.hid hUU
        have HU1 := Lib.hid hU1
        have HU2 := Lib.hid hU2
        have HL' := Lib.hid hL'
        have es : (i : Int) - j = ((i - j : Nat) : Int) := by omega
        have hgz : (j : Int) < (i : Int) := by omega
        clear hUU hU1 hU2 hL'
        go_wp2_with (go_at_call 366; refine (hc _ rfl).mono ?_; rintro e w2 ⟨rfl, hr2, hg2⟩)
        have HR2 := Lib.hid hr2
        have HG2 := Lib.hid (gtrans HG.out hg2)
        clear hr2 hg2
        go_roundw
        case rel => exact ⟨i - j, j, X' ++ V', U2, U1, Y', by first | rfl | (congr 1; omega), rfl, HU2.out, HU1.out, by omega, by omega, by have := HX.out; have := HP.out; have := HV.out; simp; omega, by omega, HL'.out, by simpa using HR2.out, HG2.out⟩
        case measure => simp [intOf]; omega
      · obtain ⟨V1, V2, hVV, hV2⟩ : ∃ V1 V2, V' = V1 ++ V2 ∧ V2.length = i := ⟨V'.take (j - i), V'.drop (j - i), (List.take_append_drop _ _).symm, by rw [List.length_drop]; have := HV.out; omega⟩
        have hV1 : V1.length = j - i := by have := HV.out; rw [hVV, List.length_append] at this; omega
        have hc := fun W (hW : W = wr) => swapR_any fv base g n cap p (m + j - i) i X' U' V1 V2 Y' W (by rw [hW]; have := HR'.out; rw [hVV] at this; simpa using this) HP.out HU.out (by have := HX.out; omega) hV2 hn
        have hL' : X' ++ V1 ++ V2 ++ (U' ++ Y') = X ++ V ++ U ++ Y := by rw [← HL.out, hVV]; simp
        have HVV := Lib.hid hVV
        have HV1 := Lib.hid hV1
        have HV2 := Lib.hid hV2
        have HL' := Lib.hid hL'
        have es : (j : Int) - i = ((j - i : Nat) : Int) := by omega
        have es2 : (m : Int) + j - i = ((m + j - i : Nat) : Int) := by omega
        have hgz : ¬ (j : Int) < (i : Int) := by omega
        clear hVV hV1 hV2 hL'
        go_wp2_with (go_at_call 366; refine (hc _ rfl).mono ?_; rintro e w2 ⟨rfl, hr2, hg2⟩)
        have HR2 := Lib.hid hr2
        have HG2 := Lib.hid (gtrans HG.out hg2)
        clear hr2 hg2
        go_roundw
        case rel => exact ⟨i, j - i, X', V2, V1, U' ++ Y', rfl, by first | rfl | (congr 1; omega), HV2.out, HV1.out, by omega, by omega, by have := HX.out; have := HP.out; omega, by omega, HL'.out, by simpa using HR2.out, HG2.out⟩
        case measure => simp [intOf]; omega
section
variable {α : Type} {lt : α → α → Bool}
theorem asc_getY (H : Wk lt) {B : List α} (hB : Asc lt B) {k l : Nat} {y z : α} (hkl : k ≤ l) (hy : B[k]? = some y) (hz : B[l]? = some z) : lt z y = false := by
  rcases Nat.lt_or_ge k l with h | h
  · obtain ⟨hk, rfl⟩ := List.getElem?_eq_some_iff.1 hy
    obtain ⟨hl, rfl⟩ := List.getElem?_eq_some_iff.1 hz
    exact (List.pairwise_iff_getElem.1 hB) k l hk hl h
  · have : k = l := by omega
    subst this
    rw [hy] at hz
    cases hz
    exact H.irr _
theorem mem_take'Y {B : List α} {i : Nat} {y : α} (h : y ∈ B.take i) : ∃ k, k < i ∧ B[k]? = some y := by
  obtain ⟨k, hk⟩ := List.mem_iff_getElem?.1 h
  have hl := (List.getElem?_eq_some_iff.1 hk).1
  rw [List.length_take] at hl
  rw [List.getElem?_take_of_lt (by omega)] at hk
  exact ⟨k, by omega, hk⟩
theorem mem_drop'Y {B : List α} {i : Nat} {y : α} (h : y ∈ B.drop i) : ∃ k, i ≤ k ∧ B[k]? = some y := by
  obtain ⟨k, hk⟩ := List.mem_iff_getElem?.1 h
  rw [List.getElem?_drop] at hk
  exact ⟨i + k, by omega, hk⟩
theorem asc_loY (H : Wk lt) {B : List α} (hB : Asc lt B) {x : α} {i : Nat} (h : i = 0 ∨ ∃ y, B[i - 1]? = some y ∧ lt y x = true) : ∀ y ∈ B.take i, lt y x = true := by
  intro y hy
  obtain ⟨k, hk, hk2⟩ := mem_take'Y hy
  rcases h with h | ⟨z, hz, hl⟩
  · omega
  · exact H.le_lt (asc_getY H hB (show k ≤ i - 1 by omega) hk2 hz) hl
theorem asc_hiY (H : Wk lt) {B : List α} (hB : Asc lt B) {x : α} {i : Nat} (h : B.length ≤ i ∨ ∃ y, B[i]? = some y ∧ lt y x = false) : ∀ y ∈ B.drop i, lt y x = false := by
  intro y hy
  obtain ⟨k, hk, hk2⟩ := mem_drop'Y hy
  rcases h with h | ⟨z, hz, hl⟩
  · have := (List.getElem?_eq_some_iff.1 hk2).1; omega
  · exact H.tr _ _ _ (asc_getY H hB hk hz hk2) hl
theorem asc_lo'Y (H : Wk lt) {B : List α} (hB : Asc lt B) {x : α} {i : Nat} (h : i = 0 ∨ ∃ y, B[i - 1]? = some y ∧ lt x y = false) : ∀ y ∈ B.take i, lt x y = false := by
  intro y hy
  obtain ⟨k, hk, hk2⟩ := mem_take'Y hy
  rcases h with h | ⟨z, hz, hl⟩
  · omega
  · exact H.tr _ _ _ hl (asc_getY H hB (show k ≤ i - 1 by omega) hk2 hz)
theorem asc_hi'Y (H : Wk lt) {B : List α} (hB : Asc lt B) {x : α} {i : Nat} (h : B.length ≤ i ∨ ∃ y, B[i]? = some y ∧ lt x y = true) : ∀ y ∈ B.drop i, lt x y = true := by
  intro y hy
  obtain ⟨k, hk, hk2⟩ := mem_drop'Y hy
  rcases h with h | ⟨z, hz, hl⟩
  · have := (List.getElem?_eq_some_iff.1 hk2).1; omega
  · exact H.lt_le hl (asc_getY H hB hk hz hk2)
theorem mrg_put_backY {S1 S2 : List α} {x : α} (h1 : ∀ y ∈ S1, lt x y = false) (h2 : ∀ y ∈ S2, lt x y = true) : mrg lt (S1 ++ S2) [x] = S1 ++ x :: S2 := by
  have e1 := mrg_append (lt := lt) S1 [] (A2 := S2) (B2 := [x]) (fun a ha b hb => by rw [List.mem_singleton.1 hb]; exact h1 a ha) (by simp)
  have e2 := mrg_append (lt := lt) [] [x] (A2 := S2) (B2 := ([] : List α)) (by simp) (fun a ha b hb => by rw [List.mem_singleton.1 hb]; exact h2 a ha)
  rw [List.nil_append, mrg_nil_r] at e1
  rw [List.nil_append, List.append_nil, mrg_nil_l, mrg_nil_r] at e2
  rw [e1, e2]; rfl
end
theorem halfY (i j : Nat) (h : i < j) : ∃ k : Nat, ((i : Int) + (j : Int)) / 2 = (k : Int) ∧ i ≤ k ∧ k < j := ⟨(i + j) / 2, by omega, by omega, by omega⟩

set_option maxHeartbeats 4000000 in
set_option maxRecDepth 100000 in
theorem symM_one (F : Nat) (cb : Array Value) (cf : Int → Int → Int) (Q : Int → Prop) (base g n cap a m b : Nat) (x : Int) (X B Y : List Int) (w : World)
    (eg : ∀ args w, (callFunc F args).run Tryz.prog w = .ok (.enter F args) w) (hcmp : Cmps F cb g cf Q w) (hW : Wk (ltc cf)) (hQx : Q x) (hQ : ∀ y ∈ B, Q y) (hB : Asc (ltc cf) B)
    (hrow : RowI base g n cap (X ++ x :: (B ++ Y)) w) (ha : X.length = a) (hm : m = a + 1) (hb : m + B.length = b) (hn : n ≤ 1000000000) :
    Calls Tryz.prog 347 #[.slice (some ⟨g, 0, none⟩) n cap, .int .i64 a, .int .i64 m, .int .i64 b, .func (.func F) #[] cb] w fun e w' => e = .returned (.tuple #[]) ∧ RowI base g n cap (X ++ mrg (ltc cf) [x] B ++ Y) w' ∧ w.grownBy w' (some g) := by
  have hlen : X.length + B.length + Y.length + 1 = n := by have := hrow.2; simp at this; omega
  have hbn : b ≤ n := by omega
  have hmb : m ≤ b := by omega
  have e1 : (m : Int) - a = 1 := by omega
  have HC := Lib.hid hcmp
  have HQ := Lib.hid hQ
  have HA := Lib.hid ha
  have HM := Lib.hid hm
  have HB := Lib.hid hb
  have HW := Lib.hid hW
  have HS := Lib.hid hB
  have HR := Lib.hid hrow
  have haz : (a : Int) < n := by omega
  have ham : a < m := by omega
  clear hcmp hQ hW hB hrow hlen ha hm hb
  go_enter Tryz.func347, Tryz.ntmps347
  go_wp2
  go_loopw [10, 11] (fun iv jv wr => ∃ i j : Nat, m ≤ i ∧ i ≤ j ∧ j ≤ b ∧ iv = .int .i64 i ∧ jv = .int .i64 j ∧ (i - m = 0 ∨ ∃ y, B[i - m - 1]? = some y ∧ ltc cf y x = true) ∧ (B.length ≤ j - m ∨ ∃ y, B[j - m]? = some y ∧ ltc cf y x = false) ∧ RowI base g n cap (X ++ x :: (B ++ Y)) wr ∧ w.grownBy wr (some g)) (fun iv jv _ => (intOf jv).toNat - (intOf iv).toNat)
  case atStart => exact ⟨m, b, by omega, hmb, by omega, rfl, rfl, .inl (by omega), .inl (by have := HB.out; omega), HR.out, grefl _ _⟩
  case round =>
    obtain ⟨i, j, hmi, hij, hjb, rfl, rfl, hlo, hhi, hr, hg⟩ := hrel
    clear e1
    by_cases hlt : i < j
    · obtain ⟨k, hk, hk1, hk2⟩ := halfY i j hlt
      obtain ⟨y, hy⟩ : ∃ y, B[k - m]? = some y := ⟨_, List.getElem?_eq_getElem (by have := HB.out; omega)⟩
      obtain ⟨cx, -⟩ := hr.at_ (get_at X (B ++ Y) x HA.out)
      obtain ⟨cy, -⟩ := hr.at_ (j := k) (x := y) (by
        rw [List.getElem?_append_right (by have := HA.out; have := HM.out; omega), show k - X.length = (k - m) + 1 by have := HA.out; have := HM.out; omega, List.getElem?_cons_succ, List.getElem?_append_left (by have := HB.out; omega)]
        exact hy)
      have hc := fun q => HC.out (wr.drewN q) (gdrew hg q) y x (HQ.out y (List.mem_of_getElem? hy)) hQx
      obtain ⟨c, hcf⟩ : ∃ c, cf y x = c := ⟨_, rfl⟩
      simp only [hcf] at hc
      have hkz : (k : Int) < n := by omega
      have HCF := Lib.hid hcf
      have HLO := Lib.hid hlo
      have HHI := Lib.hid hhi
      have HY := Lib.hid hy
      have HROW := Lib.hid hr
      have HG := Lib.hid hg
      clear hcf hlo hhi hy hr hg
      by_cases hneg : c < 0
      all_goals
        go_wp2_with fail
        go_quiet ((go_at_fn F; exact Calls.quiet_of (hc _)))
        go_wp2
        go_roundw
        case rel => first
          | exact ⟨k + 1, j, by omega, by omega, by omega, by go_num, rfl, .inr ⟨y, by rw [show k + 1 - m - 1 = k - m by omega]; exact HY.out, by unfold ltc; rw [HCF.out]; exact decide_eq_true hneg⟩, HHI.out, HROW.out.drewN nq, gdrew HG.out nq⟩
          | exact ⟨i, k, by omega, by omega, by omega, rfl, rfl, HLO.out, .inr ⟨y, HY.out, by unfold ltc; rw [HCF.out]; exact decide_eq_false (by omega)⟩, HROW.out.drewN nq, gdrew HG.out nq⟩
        case measure => simp [intOf]; omega
    · obtain rfl : i = j := by omega
      have h1 := asc_loY HW.out HS.out hlo
      have h2 := asc_hiY HW.out HS.out hhi
      obtain ⟨B1, hB1⟩ : ∃ B1, B.take (i - m) = B1 := ⟨_, rfl⟩
      obtain ⟨B2, hB2⟩ : ∃ B2, B.drop (i - m) = B2 := ⟨_, rfl⟩
      have hBB : B = B1 ++ B2 := by rw [← hB1, ← hB2, List.take_append_drop]
      have hl1 : B1.length = i - m := by rw [← hB1, List.length_take]; have := HB.out; omega
      rw [hB1] at h1
      rw [hB2] at h2
      have hfin : X ++ mrg (ltc cf) [x] B ++ Y = X ++ B1 ++ x :: (B2 ++ Y) := by rw [hBB, mrg_put_front h1 h2]; simp
      rw [hBB] at hr
      have HF := Lib.hid hfin
      have HL1 := Lib.hid hl1
      have HROW := Lib.hid hr
      have HG := Lib.hid hg
      clear h1 h2 hB1 hB2 hBB hl1 hfin hr hg hlo hhi
      go_wp2
      go_loopw [13] (fun kv wr => ∃ k : Nat, a ≤ k ∧ k + 1 ≤ i ∧ kv = .int .i64 k ∧ RowI base g n cap (X ++ B1.take (k - a) ++ x :: (B1.drop (k - a) ++ (B2 ++ Y))) wr ∧ w.grownBy wr (some g)) (fun kv _ => i - (intOf kv).toNat)
      case atStart => exact ⟨a, by omega, by omega, rfl, by rw [Nat.sub_self]; simpa using HROW.out, HG.out⟩
      case round =>
        obtain ⟨k, hk1, hk2, rfl, hr, hg⟩ := hrel
        have hM := HM.out
        by_cases hki : k + 1 < i
        · obtain ⟨y, hy⟩ : ∃ y, B1[k - a]? = some y := ⟨_, List.getElem?_eq_getElem (by have := HL1.out; omega)⟩
          rw [drop_cons hy, show k - a + 1 = k + 1 - a by omega] at hr
          obtain ⟨P, hP⟩ : ∃ P, X ++ B1.take (k - a) = P := ⟨_, rfl⟩
          obtain ⟨R, hR⟩ : ∃ R, B1.drop (k + 1 - a) ++ (B2 ++ Y) = R := ⟨_, rfl⟩
          have hPl : P.length = k := by rw [← hP, List.length_append, List.length_take]; have := HA.out; have := HL1.out; omega
          have e2 : P ++ y :: x :: R = X ++ B1.take (k + 1 - a) ++ x :: (B1.drop (k + 1 - a) ++ (B2 ++ Y)) := by
            rw [← hP, ← hR, show k + 1 - a = k - a + 1 by omega, take_snocZ hy]; simp
          rw [hP, List.cons_append, hR] at hr
          obtain ⟨ck, fk⟩ := hr.at_ (hPl ▸ (get_pair P R x y).1)
          obtain ⟨ck1, fk1⟩ := hr.at_ (hPl ▸ (get_pair P R x y).2)
          have z1 : (k : Int) + 1 < n := by omega
          have z0 : (k : Int) < n := by omega
          have q1 : (0 : Int) ≤ (k : Int) + 1 := by omega
          have t1 : ((k : Int) + 1).toNat = k + 1 := by omega
          have v1 : IntKind.i64.wrap ((k : Int) + 1) = (k : Int) + 1 := by rw [IntKind.wrap_i64]; omega
          have w1 : (k : Int) < (i : Int) - 1 := by omega
          have HE := Lib.hid e2
          have HPL := Lib.hid hPl
          have HROW2 := Lib.hid hr
          have HG2 := Lib.hid hg
          clear hy e2 hP hR hPl hr hg hM
          obtain ⟨k1, hk1'⟩ : ∃ k1, k1 = k + 1 := ⟨_, rfl⟩
          rw [← hk1'] at ck1 fk1 t1
          have hne : k ≠ k1 := by omega
          have HK1 := Lib.hid hk1'
          clear hk1'
          go_wp2_with fail
          go_region
          all_goals go_wp2
          go_roundw
          case rel =>
            have hx := HROW2.out.swap k k1 y x 1
            rw [HK1.out] at hx
            rw [show (((P ++ x :: y :: R).set k y).set (k + 1) x) = P ++ y :: x :: R by rw [← HPL.out]; exact set_pair' P R x y y x] at hx
            rw [← HK1.out] at hx
            exact ⟨k + 1, by omega, by omega, by go_num, by rw [← HE.out]; exact hx.1, gtrans HG2.out hx.2⟩
          case measure => simp [intOf]; omega
        · have w1 : ¬ (k : Int) < (i : Int) - 1 := by omega
          have hfin2 : X ++ B1.take (k - a) ++ x :: (B1.drop (k - a) ++ (B2 ++ Y)) = X ++ mrg (ltc cf) [x] B ++ Y := by
            rw [HF.out, List.take_of_length_le (by have := HL1.out; omega), List.drop_of_length_le (by have := HL1.out; omega)]; simp
          rw [hfin2] at hr
          have HR2 := Lib.hid hr
          have HG2 := Lib.hid hg
          clear hfin2 hr hg hM
          go_wp2
          (try simp only [Exit.inBlock, Exit.then])
          refine bodyPost_ret (results_none rfl _ _ _) rfl ?_
          exact ⟨rfl, by simpa using HR2.out, HG2.out⟩
set_option maxHeartbeats 4000000 in
set_option maxRecDepth 100000 in
theorem symM_last (F : Nat) (cb : Array Value) (cf : Int → Int → Int) (Q : Int → Prop) (base g n cap a m b : Nat) (x : Int) (X A Y : List Int) (w : World)
    (eg : ∀ args w, (callFunc F args).run Tryz.prog w = .ok (.enter F args) w) (hcmp : Cmps F cb g cf Q w) (hW : Wk (ltc cf)) (hQx : Q x) (hQ : ∀ y ∈ A, Q y) (hA : Asc (ltc cf) A) (hA2 : A.length ≠ 1) (hA0 : 0 < A.length)
    (hrow : RowI base g n cap (X ++ A ++ x :: Y) w) (ha : X.length = a) (hm : a + A.length = m) (hb : b = m + 1) (hn : n ≤ 1000000000) :
    Calls Tryz.prog 347 #[.slice (some ⟨g, 0, none⟩) n cap, .int .i64 a, .int .i64 m, .int .i64 b, .func (.func F) #[] cb] w fun e w' => e = .returned (.tuple #[]) ∧ RowI base g n cap (X ++ mrg (ltc cf) A [x] ++ Y) w' ∧ w.grownBy w' (some g) := by
  have hlen : X.length + A.length + Y.length + 1 = n := by have := hrow.2; simp at this; omega
  have hbn : b ≤ n := by omega
  have ham : a < m := by omega
  have e0 : (((m : Int) - a) == 1) = false := by simp; omega
  have e1 : (b : Int) - m = 1 := by omega
  have HC := Lib.hid hcmp
  have HQ := Lib.hid hQ
  have HA := Lib.hid ha
  have HM := Lib.hid hm
  have HB := Lib.hid hb
  have HW := Lib.hid hW
  have HS := Lib.hid hA
  have HR := Lib.hid hrow
  have hmz : (m : Int) < n := by omega
  have hmb : m < b := by omega
  clear hcmp hQ hW hA hrow hlen ha hm hb hA2 hA0
  go_enter Tryz.func347, Tryz.ntmps347
  go_wp2
  go_loopw [14, 15] (fun iv jv wr => ∃ i j : Nat, a ≤ i ∧ i ≤ j ∧ j ≤ m ∧ iv = .int .i64 i ∧ jv = .int .i64 j ∧ (i - a = 0 ∨ ∃ y, A[i - a - 1]? = some y ∧ ltc cf x y = false) ∧ (A.length ≤ j - a ∨ ∃ y, A[j - a]? = some y ∧ ltc cf x y = true) ∧ RowI base g n cap (X ++ A ++ x :: Y) wr ∧ w.grownBy wr (some g)) (fun iv jv _ => (intOf jv).toNat - (intOf iv).toNat)
  case atStart => exact ⟨a, m, by omega, by omega, by omega, rfl, rfl, .inl (by omega), .inl (by have := HM.out; omega), HR.out, grefl _ _⟩
  case round =>
    obtain ⟨i, j, hmi, hij, hjb, rfl, rfl, hlo, hhi, hr, hg⟩ := hrel
    clear e1
    by_cases hlt : i < j
    · obtain ⟨k, hk, hk1, hk2⟩ := halfY i j hlt
      obtain ⟨y, hy⟩ : ∃ y, A[k - a]? = some y := ⟨_, List.getElem?_eq_getElem (by have := HM.out; omega)⟩
      obtain ⟨cx, -⟩ := hr.at_ (get_at (X ++ A) Y x (j := m) (by have := HM.out; have := HA.out; simp; omega))
      obtain ⟨cy, -⟩ := hr.at_ (j := k) (x := y) (by
        rw [List.getElem?_append_left (by have := HM.out; have := HA.out; simp; omega), List.getElem?_append_right (by have := HA.out; omega), HA.out]
        exact hy)
      have hc := fun q => HC.out (wr.drewN q) (gdrew hg q) x y hQx (HQ.out y (List.mem_of_getElem? hy))
      obtain ⟨c, hcf⟩ : ∃ c, cf x y = c := ⟨_, rfl⟩
      simp only [hcf] at hc
      have hkz : (k : Int) < n := by omega
      have HCF := Lib.hid hcf
      have HLO := Lib.hid hlo
      have HHI := Lib.hid hhi
      have HY := Lib.hid hy
      have HROW := Lib.hid hr
      have HG := Lib.hid hg
      clear hcf hlo hhi hy hr hg
      rcases (show decide (c < 0) = true ∨ decide (c < 0) = false by cases decide (c < 0) <;> simp) with hneg | hneg
      all_goals
        go_wp2_with fail
        go_quiet ((go_at_fn F; exact Calls.quiet_of (hc _)))
        go_wp2
        go_roundw
        case rel => first
          | exact ⟨k + 1, j, by omega, by omega, by omega, by go_num, rfl, .inr ⟨y, by rw [show k + 1 - a - 1 = k - a by omega]; exact HY.out, by unfold ltc; rw [HCF.out]; first | exact hneg | exact decide_eq_false (by omega)⟩, HHI.out, HROW.out.drewN nq, gdrew HG.out nq⟩
          | exact ⟨i, k, by omega, by omega, by omega, rfl, rfl, HLO.out, .inr ⟨y, HY.out, by unfold ltc; rw [HCF.out]; first | exact hneg | exact decide_eq_true hneg⟩, HROW.out.drewN nq, gdrew HG.out nq⟩
        case measure => simp [intOf]; omega
    · obtain rfl : i = j := by omega
      have h1 := asc_lo'Y HW.out HS.out hlo
      have h2 := asc_hi'Y HW.out HS.out hhi
      obtain ⟨A1, hA1⟩ : ∃ A1, A.take (i - a) = A1 := ⟨_, rfl⟩
      obtain ⟨A2, hA2⟩ : ∃ A2, A.drop (i - a) = A2 := ⟨_, rfl⟩
      have hAA : A = A1 ++ A2 := by rw [← hA1, ← hA2, List.take_append_drop]
      have hl1 : A1.length = i - a := by rw [← hA1, List.length_take]; have := HM.out; omega
      have hl2 : A2.length = m - i := by rw [← hA2, List.length_drop]; have := HM.out; omega
      rw [hA1] at h1
      rw [hA2] at h2
      have hfin : X ++ mrg (ltc cf) A [x] ++ Y = X ++ A1 ++ x :: (A2 ++ Y) := by rw [hAA, mrg_put_backY h1 h2]; simp
      rw [hAA] at hr
      have HF := Lib.hid hfin
      have HL1 := Lib.hid hl1
      have HL2 := Lib.hid hl2
      have HROW := Lib.hid hr
      have HG := Lib.hid hg
      clear h1 h2 hA1 hA2 hAA hl1 hl2 hfin hr hg hlo hhi
      go_wp2
      go_loopw [17] (fun kv wr => ∃ k : Nat, i ≤ k ∧ k ≤ m ∧ kv = .int .i64 k ∧ RowI base g n cap (X ++ A1 ++ A2.take (k - i) ++ x :: (A2.drop (k - i) ++ Y)) wr ∧ w.grownBy wr (some g)) (fun kv _ => (intOf kv).toNat)
      case atStart => exact ⟨m, by omega, by omega, rfl, by rw [List.take_of_length_le (by have := HL2.out; omega), List.drop_of_length_le (by have := HL2.out; omega)]; simpa using HROW.out, HG.out⟩
      case round =>
        obtain ⟨k, hk1, hk2, rfl, hr, hg⟩ := hrel
        by_cases hki : i < k
        · obtain ⟨kp, rfl⟩ : ∃ kp, k = kp + 1 := ⟨k - 1, by omega⟩
          obtain ⟨y, hy⟩ : ∃ y, A2[kp - i]? = some y := ⟨_, List.getElem?_eq_getElem (by have := HL2.out; omega)⟩
          obtain ⟨P, hP⟩ : ∃ P, X ++ A1 ++ A2.take (kp - i) = P := ⟨_, rfl⟩
          obtain ⟨R, hR⟩ : ∃ R, A2.drop (kp - i + 1) ++ Y = R := ⟨_, rfl⟩
          have hPl : P.length = kp := by rw [← hP, List.length_append, List.length_append, List.length_take]; have := HA.out; have := HL1.out; have := HL2.out; omega
          have e2 : P ++ x :: y :: R = X ++ A1 ++ A2.take (kp - i) ++ x :: (A2.drop (kp - i) ++ Y) := by
            rw [← hP, ← hR, drop_cons hy]; simp
          have e3 : X ++ A1 ++ A2.take (kp + 1 - i) ++ x :: (A2.drop (kp + 1 - i) ++ Y) = P ++ y :: x :: R := by
            rw [← hP, ← hR, show kp + 1 - i = kp - i + 1 by omega, take_snocZ hy]; simp
          rw [e3] at hr
          obtain ⟨ck, fk⟩ := hr.at_ (hPl ▸ (get_pair P R y x).1)
          obtain ⟨ck1, fk1⟩ := hr.at_ (hPl ▸ (get_pair P R y x).2)
          have z1 : (kp : Int) + 1 < n := by omega
          have z0 : (kp : Int) < n := by omega
          have q1 : (0 : Int) ≤ (kp : Int) + 1 := by omega
          have t1 : ((kp : Int) + 1).toNat = kp + 1 := by omega
          have v1 : IntKind.i64.wrap (kp : Int) = (kp : Int) := by rw [IntKind.wrap_i64]; omega
          have w1 : (i : Int) < (kp : Int) + 1 := by omega
          have HE := Lib.hid e2
          have HPL := Lib.hid hPl
          have HROW2 := Lib.hid hr
          have HG2 := Lib.hid hg
          clear hy e2 e3 hP hR hPl hr hg
          obtain ⟨k1, hk1'⟩ : ∃ k1, k1 = kp + 1 := ⟨_, rfl⟩
          rw [← hk1'] at ck1 fk1 t1
          have hne : k1 ≠ kp := by omega
          have HK1 := Lib.hid hk1'
          clear hk1'
          go_wp2_with fail
          go_region
          all_goals go_wp2
          go_roundw
          case rel =>
            have hx := HROW2.out.nbr 1 HPL.out HK1.out
            exact ⟨kp, by omega, by omega, by first | rfl | go_num, by rw [← HE.out]; exact hx.1, gtrans HG2.out hx.2⟩
          case measure => simp [intOf]
        · have w1 : ¬ (i : Int) < (k : Int) := by omega
          have hfin2 : X ++ A1 ++ A2.take (k - i) ++ x :: (A2.drop (k - i) ++ Y) = X ++ mrg (ltc cf) A [x] ++ Y := by
            rw [HF.out, show k - i = 0 by omega]; simp
          rw [hfin2] at hr
          have HR2 := Lib.hid hr
          have HG2 := Lib.hid hg
          clear hfin2 hr hg
          go_wp2
          (try simp only [Exit.inBlock, Exit.then])
          refine bodyPost_ret (results_none rfl _ _ _) rfl ?_
          exact ⟨rfl, by simpa using HR2.out, HG2.out⟩
theorem mrg_cutY {α : Type} {lt : α → α → Bool} (H : Wk lt) {A B : List α} (hA : Asc lt A) (hB : Asc lt B) {i j : Nat}
    (h1 : i = 0 ∨ B.length ≤ j ∨ ∃ x y, A[i - 1]? = some x ∧ B[j]? = some y ∧ lt y x = false) (h2 : A.length ≤ i ∨ j = 0 ∨ ∃ x y, A[i]? = some x ∧ B[j - 1]? = some y ∧ lt y x = true) :
    mrg lt A B = mrg lt (A.take i) (B.take j) ++ mrg lt (A.drop i) (B.drop j) := by
  have := mrg_append (lt := lt) (A.take i) (B.take j) (A2 := A.drop i) (B2 := B.drop j) (fun x hx y hy => by
    obtain ⟨k, hk, hk2⟩ := mem_take'Y hx
    obtain ⟨l, hl, hl2⟩ := mem_drop'Y hy
    rcases h1 with h1 | h1 | ⟨u, v, hu, hv, huv⟩
    · omega
    · have := (List.getElem?_eq_some_iff.1 hl2).1; omega
    · exact H.tr _ _ _ (H.tr _ _ _ (asc_getY H hB hl hv hl2) huv) (asc_getY H hA (show k ≤ i - 1 by omega) hk2 hu)) (fun x hx y hy => by
    obtain ⟨k, hk, hk2⟩ := mem_drop'Y hx
    obtain ⟨l, hl, hl2⟩ := mem_take'Y hy
    rcases h2 with h2 | h2 | ⟨u, v, hu, hv, huv⟩
    · have := (List.getElem?_eq_some_iff.1 hk2).1; omega
    · omega
    · exact H.lt_le (H.le_lt (asc_getY H hB (show l ≤ j - 1 by omega) hl2 hv) huv) (asc_getY H hA hk hu hk2))
  rw [List.take_append_drop, List.take_append_drop] at this
  exact this
theorem mrg_disjY {α : Type} {lt : α → α → Bool} {A B : List α} (h : A = [] ∨ B = []) : mrg lt A B = A ++ B := by
  rcases h with rfl | rfl
  · rw [mrg_nil_l]; rfl
  · rw [mrg_nil_r]; simp
/-- what symMergeCmpFunc does with parts that have at most N elements together -/
def SymM (F : Nat) (cb : Array Value) (cf : Int → Int → Int) (Q : Int → Prop) (base g n cap N : Nat) : Prop :=
    ∀ (a m b : Nat) (X A B Y : List Int) (w : World), b - a ≤ N → Cmps F cb g cf Q w → (∀ y ∈ A, Q y) → (∀ y ∈ B, Q y) → Asc (ltc cf) A → Asc (ltc cf) B → 0 < A.length → 0 < B.length →
    RowI base g n cap (X ++ A ++ B ++ Y) w → X.length = a → a + A.length = m → m + B.length = b →
    Calls Tryz.prog 347 #[.slice (some ⟨g, 0, none⟩) n cap, .int .i64 a, .int .i64 m, .int .i64 b, .func (.func F) #[] cb] w fun e w' => e = .returned (.tuple #[]) ∧ RowI base g n cap (X ++ mrg (ltc cf) A B ++ Y) w' ∧ w.grownBy w' (some g)
set_option maxHeartbeats 8000000 in
set_option maxRecDepth 100000 in
theorem symM_step (F : Nat) (cb : Array Value) (cf : Int → Int → Int) (Q : Int → Prop) (base g n cap N : Nat) (eg : ∀ args w, (callFunc F args).run Tryz.prog w = .ok (.enter F args) w) (hW : Wk (ltc cf)) (hn : n ≤ 1000000000) (ih : SymM F cb cf Q base g n cap N)
    (a m b : Nat) (X A B Y : List Int) (w : World) (hN : b - a ≤ N + 1) (hcmp : Cmps F cb g cf Q w) (hQA : ∀ y ∈ A, Q y) (hQB : ∀ y ∈ B, Q y) (hA : Asc (ltc cf) A) (hB : Asc (ltc cf) B) (hA0 : 0 < A.length) (hB0 : 0 < B.length)
    (hrow : RowI base g n cap (X ++ A ++ B ++ Y) w) (ha : X.length = a) (hm : a + A.length = m) (hb : m + B.length = b) :
    Calls Tryz.prog 347 #[.slice (some ⟨g, 0, none⟩) n cap, .int .i64 a, .int .i64 m, .int .i64 b, .func (.func F) #[] cb] w fun e w' => e = .returned (.tuple #[]) ∧ RowI base g n cap (X ++ mrg (ltc cf) A B ++ Y) w' ∧ w.grownBy w' (some g) := by
    by_cases hA1 : A.length = 1
    · obtain ⟨x, rfl⟩ := List.length_eq_one_iff.1 hA1
      exact symM_one F cb cf Q base g n cap a m b x X B Y w eg hcmp hW (hQA x (by simp)) hQB hB (by simpa using hrow) ha (by simp at hm; omega) hb hn
    by_cases hB1 : B.length = 1
    · obtain ⟨x, rfl⟩ := List.length_eq_one_iff.1 hB1
      exact symM_last F cb cf Q base g n cap a m b x X A Y w eg hcmp hW (hQB x (by simp)) hQA hA hA1 hA0 (by simpa using hrow) ha hm (by simp at hb; omega) hn
    have hlen : X.length + A.length + B.length + Y.length = n := by have := hrow.2; simp at this; omega
    have hbn : b ≤ n := by omega
    have ham : a + 2 ≤ m := by omega
    have hmb : m + 2 ≤ b := by omega
    have e0 : (((m : Int) - a) == 1) = false := by simp; omega
    have e1 : (((b : Int) - m) == 1) = false := by simp; omega
    obtain ⟨mid, hmid, hmd1, hmd2⟩ : ∃ k : Nat, ((a : Int) + (b : Int)) / 2 = (k : Int) ∧ 2 * k ≤ a + b ∧ a + b ≤ 2 * k + 1 := ⟨(a + b) / 2, by omega, by omega, by omega⟩
    have HW := Lib.hid hW
    have HC := Lib.hid hcmp
    have HIH := Lib.hid ih
    have HQA := Lib.hid hQA
    have HQB := Lib.hid hQB
    have HA := Lib.hid ha
    have HM := Lib.hid hm
    have HB := Lib.hid hb
    have HSA := Lib.hid hA
    have HSB := Lib.hid hB
    have HR := Lib.hid hrow
    clear hcmp ih hW hQA hQB hA hB hrow hlen ha hm hb hA0 hB0 hA1 hB1
    obtain ⟨lo, hi, hlo1, hlo2, hhi1, hhi2, hside, hsl, hsh⟩ : ∃ lo hi : Nat, a ≤ lo ∧ lo ≤ hi ∧ hi ≤ m ∧ hi ≤ mid ∧ (mid + m ≤ lo + b ∧ mid + m - lo ≤ b) ∧ (if mid < m then (mid : Int) + m - b = lo else a = lo) ∧ (if mid < m then mid = hi else m = hi) := by
      by_cases h : mid < m
      · refine ⟨mid + m - b, mid, by omega, by omega, by omega, by omega, by omega, ?_, ?_⟩
        · rw [if_pos h]; omega
        · rw [if_pos h]
      · refine ⟨a, m, by omega, by omega, by omega, by omega, by omega, ?_, ?_⟩
        · rw [if_neg h]
        · rw [if_neg h]
    have hcase : (lo = a ∧ hi = m) ∨ (mid + m = lo + b ∧ hi = mid) := by
      by_cases h : mid < m
      · rw [if_pos h] at hsl hsh; omega
      · rw [if_neg h] at hsl hsh; omega
    have HCASE := Lib.hid hcase
    have HSL := Lib.hid hsl
    have HSH := Lib.hid hsh
    obtain ⟨nn, hnn⟩ : ∃ nn : Nat, nn = mid + m := ⟨_, rfl⟩
    obtain ⟨pp, hpp⟩ : ∃ pp : Nat, pp + 1 = nn := ⟨nn - 1, by omega⟩
    have en : (mid : Int) + m = nn := by omega
    have ep : (nn : Int) - 1 = pp := by omega
    have HNN := Lib.hid hnn
    have HPP := Lib.hid hpp
    clear hcase hsl hsh hnn hpp
    go_enter Tryz.func347, Tryz.ntmps347
    go_upto_if 140 with fail
    go_cut [20, 21] from 138 to 146 (fun s20 s21 wx => s20 = .int .i64 lo ∧ s21 = .int .i64 hi ∧ wx = w)
    case first =>
      by_cases hmm : mid < m
      · have hmz : (mid : Int) < (m : Int) := by omega
        have h1 := HSL.out
        have h2 := HSH.out
        rw [if_pos hmm] at h1 h2
        have H1 := Lib.hid (show (nn : Int) - b = lo by have := HNN.out; omega)
        have H2 := Lib.hid h2
        clear h1 h2
        go_wp2
        go_meet
        rw [H1.out, H2.out]
        exact ⟨rfl, rfl, rfl⟩
      · have hmz : ¬ (mid : Int) < (m : Int) := by omega
        have h1 := HSL.out
        have h2 := HSH.out
        rw [if_neg hmm] at h1 h2
        have H1 := Lib.hid h1
        have H2 := Lib.hid h2
        clear h1 h2
        go_wp2
        go_meet
        rw [H1.out, H2.out]
        exact ⟨rfl, rfl, rfl⟩
    case rest =>
      obtain ⟨rfl, rfl, hwc⟩ := hcut
      have hwc := hwc.symm
      subst hwc
      have hlz : (lo : Int) ≤ n := by omega
      go_wp2
      go_loopw [20, 21] (fun sv rv wr => ∃ s r : Nat, lo ≤ s ∧ s ≤ r ∧ r ≤ hi ∧ sv = .int .i64 s ∧ rv = .int .i64 r ∧ (s = lo ∨ ∃ x y, A[s - a - 1]? = some x ∧ B[mid - s]? = some y ∧ ltc cf y x = false) ∧ (r = hi ∨ ∃ x y, A[r - a]? = some x ∧ B[mid - r - 1]? = some y ∧ ltc cf y x = true) ∧ RowI base g n cap (X ++ A ++ B ++ Y) wr ∧ w.grownBy wr (some g)) (fun sv rv _ => (intOf rv).toNat - (intOf sv).toNat)
      case atStart => exact ⟨lo, hi, Nat.le_refl _, hlo2, Nat.le_refl _, rfl, rfl, .inl rfl, .inl rfl, HR.out, grefl _ _⟩
      case round =>
        obtain ⟨s, r, hs1, hs2, hs3, rfl, rfl, hlo, hhi, hr, hg⟩ := hrel
        have hXA := HA.out
        have hAm := HM.out
        have hBb := HB.out
        have hnn := HNN.out
        have hpp := HPP.out
        by_cases hlt : s < r
        · obtain ⟨k, hk, hk1, hk2⟩ := halfY s r hlt
          obtain ⟨x, hx⟩ : ∃ x, A[k - a]? = some x := ⟨_, List.getElem?_eq_getElem (by omega)⟩
          obtain ⟨y, hy⟩ : ∃ y, B[mid - k - 1]? = some y := ⟨_, List.getElem?_eq_getElem (by omega)⟩
          obtain ⟨q, hq⟩ : ∃ q, q = pp - k := ⟨_, rfl⟩
          have eq1 : (pp : Int) - k = q := by omega
          obtain ⟨cx, -⟩ := hr.at_ (j := k) (x := x) (by
            rw [List.append_assoc, List.getElem?_append_left (by simp; omega), List.getElem?_append_right (by omega), hXA]
            exact hx)
          obtain ⟨cy, -⟩ := hr.at_ (j := q) (x := y) (by
            rw [List.getElem?_append_left (by simp; omega), List.getElem?_append_right (by simp; omega), List.length_append, show q - (X.length + A.length) = mid - k - 1 by omega]
            exact hy)
          have hc := fun z => HC.out (wr.drewN z) (gdrew hg z) y x (HQB.out y (List.mem_of_getElem? hy)) (HQA.out x (List.mem_of_getElem? hx))
          obtain ⟨c, hcf⟩ : ∃ c, cf y x = c := ⟨_, rfl⟩
          simp only [hcf] at hc
          have hkz : (k : Int) < n := by omega
          have hqz : (q : Int) < n := by omega
          have HCF := Lib.hid hcf
          have HLO := Lib.hid hlo
          have HHI := Lib.hid hhi
          have HX := Lib.hid hx
          have HY := Lib.hid hy
          have HROW := Lib.hid hr
          have HG := Lib.hid hg
          clear hcf hlo hhi hx hy hr hg hXA hAm hBb hnn hpp hq
          rcases (show decide (c < 0) = true ∨ decide (c < 0) = false by cases decide (c < 0) <;> simp) with hneg | hneg
          all_goals
            go_wp2_with fail
            go_quiet ((go_at_fn F; exact Calls.quiet_of (hc _)))
            go_wp2
            go_roundw
            case rel => first
              | exact ⟨k + 1, r, by omega, by omega, by omega, by go_num, rfl, .inr ⟨x, y, by rw [show k + 1 - a - 1 = k - a by omega]; exact HX.out, by rw [show mid - (k + 1) = mid - k - 1 by omega]; exact HY.out, by unfold ltc; rw [HCF.out]; exact hneg⟩, HHI.out, HROW.out.drewN nq, gdrew HG.out nq⟩
              | exact ⟨s, k, by omega, by omega, by omega, rfl, rfl, HLO.out, .inr ⟨x, y, HX.out, HY.out, by unfold ltc; rw [HCF.out]; exact hneg⟩, HROW.out.drewN nq, gdrew HG.out nq⟩
            case measure => simp [intOf]; omega
        · obtain rfl : s = r := by omega
          obtain ⟨q, hq⟩ : ∃ q, q = nn - s := ⟨_, rfl⟩
          have eq1 : (nn : Int) - s = q := by omega
          have hmq : m ≤ q := by omega
          have hqb : q ≤ b := by omega
          have hmidq : mid ≤ q := by omega
          have hsm : s ≤ m := by omega
          have hsmid : s ≤ mid := by omega
          have hcut := mrg_cutY HW.out HSA.out HSB.out (i := s - a) (j := mid - s)
            (by
              rcases HCASE.out with h | h
              · rcases hlo with h' | h'
                · exact .inl (by omega)
                · exact .inr (.inr h')
              · rcases hlo with h' | h'
                · exact .inr (.inl (by omega))
                · exact .inr (.inr h'))
            (by
              rcases HCASE.out with h | h
              · rcases hhi with h' | h'
                · exact .inl (by omega)
                · exact .inr (.inr h')
              · rcases hhi with h' | h'
                · exact .inr (.inl (by omega))
                · exact .inr (.inr h'))
          obtain ⟨A1, hA1⟩ : ∃ A1, A.take (s - a) = A1 := ⟨_, rfl⟩
          obtain ⟨A2, hA2⟩ : ∃ A2, A.drop (s - a) = A2 := ⟨_, rfl⟩
          obtain ⟨B1, hB1⟩ : ∃ B1, B.take (mid - s) = B1 := ⟨_, rfl⟩
          obtain ⟨B2, hB2⟩ : ∃ B2, B.drop (mid - s) = B2 := ⟨_, rfl⟩
          have hAA : A = A1 ++ A2 := by rw [← hA1, ← hA2, List.take_append_drop]
          have hBB : B = B1 ++ B2 := by rw [← hB1, ← hB2, List.take_append_drop]
          have la1 : A1.length = s - a := by rw [← hA1, List.length_take]; omega
          have la2 : A2.length = m - s := by rw [← hA2, List.length_drop]; omega
          have lb1 : B1.length = mid - s := by rw [← hB1, List.length_take]; omega
          have lb2 : B2.length = b - q := by rw [← hB2, List.length_drop]; omega
          rw [hA1, hA2, hB1, hB2] at hcut
          have sA := HSA.out
          have sB := HSB.out
          have qA := HQA.out
          have qB := HQB.out
          rw [hAA] at sA qA hr
          rw [hBB] at sB qB hr
          have hQ := Lib.hid hq
          have HCUT := Lib.hid hcut
          have LA1 := Lib.hid la1
          have LA2 := Lib.hid la2
          have LB1 := Lib.hid lb1
          have LB2 := Lib.hid lb2
          have SA := Lib.hid (asc_append.1 sA)
          have SB := Lib.hid (asc_append.1 sB)
          have QA := Lib.hid qA
          have QB := Lib.hid qB
          have HROW := Lib.hid hr
          have HG := Lib.hid hg
          clear hlo hhi hr hg hXA hAm hBb hnn hpp hq hcut hA1 hA2 hB1 hB2 hAA hBB la1 la2 lb1 lb2 sA sB qA qB
          go_upto_region 39 with fail
          go_cut [185] from 178 to 185 (fun s185 wx => s185 = .bool (decide (s < m ∧ m < q)) ∧ wx = wr)
          case first =>
            by_cases h1 : s < m
            · by_cases h2 : m < q
              all_goals
                go_wp2
                go_meet
                exact ⟨by simp [h1, h2], rfl⟩
            · go_wp2
              go_meet
              exact ⟨by simp [h1], rfl⟩
          case rest =>
            obtain ⟨rfl, hwc⟩ := hcut
            have hwc := hwc.symm
            subst hwc
            go_upto_if 185 with fail
            go_cut [] from 178 to 191 (fun wx => RowI base g n cap (X ++ A1 ++ B1 ++ A2 ++ B2 ++ Y) wx ∧ w.grownBy wx (some g))
            case first =>
              by_cases h1 : s < m ∧ m < q
              · have hd : decide (s < m ∧ m < q) = true := by simpa using h1
                have hc := fun W (hW : W = wr) => rot_any (.func (.func F) #[] cb) base g n cap s m q (X ++ A1) A2 B1 (B2 ++ Y) W (by rw [hW]; simpa using HROW.out) (by have := HA.out; have := LA1.out; simp; omega) (by have := LA2.out; omega) (by have := LB1.out; have := HNN.out; have := hQ.out; omega) (by have := LA2.out; omega) (by have := LB1.out; have := HNN.out; have := hQ.out; omega) hn
                go_wp2_with (go_at_call 360; refine (hc _ rfl).mono ?_; rintro e w2 ⟨rfl, hr2, hg2⟩)
                go_meet
                exact ⟨by simpa using hr2, gtrans HG.out hg2⟩
              · have hd : decide (s < m ∧ m < q) = false := by simpa using h1
                have hdis : A2 = [] ∨ B1 = [] := by
                  rcases Nat.lt_or_ge s m with h | h
                  · exact .inr (List.eq_nil_of_length_eq_zero (by have := LB1.out; have := HNN.out; have := hQ.out; omega))
                  · exact .inl (List.eq_nil_of_length_eq_zero (by have := LA2.out; omega))
                have HD := Lib.hid (show RowI base g n cap (X ++ A1 ++ B1 ++ A2 ++ B2 ++ Y) wr by
                  have := HROW.out
                  rcases hdis with h | h <;> rw [h] at this ⊢ <;> simpa using this)
                clear hdis
                go_wp2
                go_meet
                exact ⟨HD.out, HG.out⟩
            case rest =>
              obtain ⟨hr1, hg1⟩ := hcut
              have HROW1 := Lib.hid hr1
              have HG1 := Lib.hid hg1
              clear hr1 hg1 HROW HG
              go_upto_region 41 with fail
              go_cut [199] from 192 to 199 (fun s199 wx => s199 = .bool (decide (a < s ∧ s < mid)) ∧ wx = wc)
              case first =>
                by_cases h1 : a < s
                · by_cases h2 : s < mid
                  all_goals
                    go_wp2
                    go_meet
                    exact ⟨by simp [h1, h2], rfl⟩
                · go_wp2
                  go_meet
                  exact ⟨by simp [h1], rfl⟩
              case rest =>
                obtain ⟨rfl, hwc⟩ := hcut
                rw [← hwc] at HROW1 HG1
                clear hwc
                go_upto_if 199 with fail
                go_cut [] from 192 to 205 (fun wx => RowI base g n cap (X ++ mrg (ltc cf) A1 B1 ++ A2 ++ B2 ++ Y) wx ∧ w.grownBy wx (some g))
                case first =>
                  by_cases h1 : a < s ∧ s < mid
                  · have hd : decide (a < s ∧ s < mid) = true := by simpa using h1
                    have hc := fun W (hW : w.grownBy W (some g)) (hR : RowI base g n cap (X ++ A1 ++ B1 ++ A2 ++ B2 ++ Y) W) => HIH.out a s mid X A1 B1 (A2 ++ B2 ++ Y) W (by omega) (HC.out.on hW) (fun y hy => QA.out y (List.mem_append_left _ hy)) (fun y hy => QB.out y (List.mem_append_left _ hy)) SA.out.1 SB.out.1 (by have := LA1.out; omega) (by have := LB1.out; omega) (by simpa using hR) HA.out (by have := LA1.out; omega) (by have := LB1.out; omega)
                    go_wp2_with (go_at_call 347; refine (hc _ HG1.out HROW1.out).mono ?_; rintro e w2 ⟨rfl, hr2, hg2⟩)
                    go_meet
                    exact ⟨by simpa using hr2, gtrans HG1.out hg2⟩
                  · have hd : decide (a < s ∧ s < mid) = false := by simpa using h1
                    have hdis : mrg (ltc cf) A1 B1 = A1 ++ B1 := mrg_disjY (by
                      rcases Nat.lt_or_ge a s with h | h
                      · exact .inr (List.eq_nil_of_length_eq_zero (by have := LB1.out; omega))
                      · exact .inl (List.eq_nil_of_length_eq_zero (by have := LA1.out; omega)))
                    have HD := Lib.hid hdis
                    clear hdis
                    go_wp2
                    go_meet
                    exact ⟨by rw [HD.out]; simpa using HROW1.out, HG1.out⟩
                case rest =>
                  obtain ⟨hr1, hg1⟩ := hcut
                  have HROW2 := Lib.hid hr1
                  have HG2 := Lib.hid hg1
                  have HFIN := Lib.hid (show X ++ mrg (ltc cf) A1 B1 ++ mrg (ltc cf) A2 B2 ++ Y = X ++ mrg (ltc cf) A B ++ Y by rw [HCUT.out]; simp)
                  clear hr1 hg1 HROW1 HG1
                  by_cases h1 : mid < q
                  · by_cases h2 : q < b
                    · have hc := fun W (hW : w.grownBy W (some g)) (hR : RowI base g n cap (X ++ mrg (ltc cf) A1 B1 ++ A2 ++ B2 ++ Y) W) => HIH.out mid q b (X ++ mrg (ltc cf) A1 B1) A2 B2 Y W (by omega) (HC.out.on hW) (fun y hy => QA.out y (List.mem_append_right _ hy)) (fun y hy => QB.out y (List.mem_append_right _ hy)) SA.out.2.1 SB.out.2.1 (by have := LA2.out; have := HNN.out; have := hQ.out; omega) (by have := LB2.out; omega) hR (by have := HA.out; have := LA1.out; have := LB1.out; rw [List.length_append, mrg_length]; omega) (by have := LA2.out; have := HNN.out; have := hQ.out; omega) (by have := LB2.out; omega)
                      go_wp2_with (go_at_call 347; refine (hc _ HG2.out HROW2.out).mono ?_; rintro e w2 ⟨rfl, hr2, hg2⟩)
                      go_end0
                      exact ⟨rfl, by rw [HFIN.out] at hr2; simpa using hr2, gtrans HG2.out hg2⟩
                    · have hdis := mrg_disjY (lt := ltc cf) (A := A2) (B := B2) (.inr (List.eq_nil_of_length_eq_zero (by have := LB2.out; omega)))
                      have HR3 := Lib.hid (show RowI base g n cap (X ++ mrg (ltc cf) A B ++ Y) wc by rw [← HFIN.out, hdis]; simpa using HROW2.out)
                      clear hdis
                      go_wp2
                      go_end0
                      exact ⟨rfl, by simpa using HR3.out, HG2.out⟩
                  · have hdis := mrg_disjY (lt := ltc cf) (A := A2) (B := B2) (.inl (List.eq_nil_of_length_eq_zero (by have := LA2.out; have := HNN.out; have := hQ.out; omega)))
                    have HR3 := Lib.hid (show RowI base g n cap (X ++ mrg (ltc cf) A B ++ Y) wc by rw [← HFIN.out, hdis]; simpa using HROW2.out)
                    clear hdis
                    go_wp2
                    go_end0
                    exact ⟨rfl, by simpa using HR3.out, HG2.out⟩
theorem symM_any (F : Nat) (cb : Array Value) (cf : Int → Int → Int) (Q : Int → Prop) (base g n cap : Nat) (eg : ∀ args w, (callFunc F args).run Tryz.prog w = .ok (.enter F args) w) (hW : Wk (ltc cf)) (hn : n ≤ 1000000000) (N : Nat) : SymM F cb cf Q base g n cap N := by
  induction N with
  | zero => intro a m b X A B Y w hN hcmp hQA hQB hA hB hA0 hB0 hrow ha hm hb; omega
  | succ N ih => exact fun a m b X A B Y w hN hcmp hQA hQB hA hB hA0 hB0 hrow ha hm hb => symM_step F cb cf Q base g n cap N eg hW hn ih a m b X A B Y w hN hcmp hQA hQB hA hB hA0 hB0 hrow ha hm hb
section
variable {α : Type} {lt : α → α → Bool}
/-- L is D with its blocks of k elements sorted -/
inductive BlY (lt : α → α → Bool) (k : Nat) : List α → List α → Prop
  | nil : BlY lt k [] []
  | cons {d D L : List α} : d.length = k → BlY lt k D L → BlY lt k (d ++ D) (srt lt d ++ L)
theorem BlY.len {k : Nat} {D L : List α} (h : BlY lt k D L) : L.length = D.length := by
  induction h with
  | nil => rfl
  | cons hd _ ih => simp [srt_length, ih]
theorem BlY.snoc {k : Nat} {D L d : List α} (h : BlY lt k D L) (hd : d.length = k) : BlY lt k (D ++ d) (L ++ srt lt d) := by
  induction h with
  | nil => simpa using BlY.cons hd BlY.nil
  | cons hd' _ ih => rw [List.append_assoc, List.append_assoc]; exact BlY.cons hd' ih
theorem BlY.split {k : Nat} {D L : List α} (h : BlY lt k D L) (hk : 0 < k) : (D = [] ∧ L = []) ∨ ∃ d D' L', D = d ++ D' ∧ L = srt lt d ++ L' ∧ d.length = k ∧ BlY lt k D' L' := by
  cases h with
  | nil => exact .inl ⟨rfl, rfl⟩
  | cons hd h => exact .inr ⟨_, _, _, rfl, rfl, hd, h⟩
theorem BlY.two {k : Nat} {D L : List α} (h : BlY lt k D L) (hk : 0 < k) {r : Nat} (hr : r < k) (h2 : 2 * k ≤ D.length + r) : ∃ d1 d2 D' L', D = d1 ++ d2 ++ D' ∧ L = srt lt d1 ++ srt lt d2 ++ L' ∧ d1.length = k ∧ d2.length = k ∧ BlY lt k D' L' := by
  rcases h.split hk with ⟨rfl, rfl⟩ | ⟨d1, D1, L1, rfl, rfl, hd1, h1⟩
  · simp at h2; omega
  · rcases h1.split hk with ⟨rfl, rfl⟩ | ⟨d2, D2, L2, rfl, rfl, hd2, h3⟩
    · simp at h2; omega
    · exact ⟨d1, d2, D2, L2, by simp, by simp, hd1, hd2, h3⟩
theorem BlY.one {k : Nat} {D L : List α} (h : BlY lt k D L) (hk : 0 < k) {r : Nat} (h2 : D.length + r < 2 * k) : (D = [] ∧ L = []) ∨ (D.length = k ∧ L = srt lt D) := by
  rcases h.split hk with ⟨rfl, rfl⟩ | ⟨d1, D1, L1, rfl, rfl, hd1, h1⟩
  · exact .inl ⟨rfl, rfl⟩
  · rcases h1.split hk with ⟨rfl, rfl⟩ | ⟨d2, D2, L2, rfl, rfl, hd2, h3⟩
    · exact .inr (by simp [hd1])
    · simp at h2; omega
theorem BlY.all (H : Wk lt) {k : Nat} {D L R : List α} (h : BlY lt k D L) (hk : 0 < k) (h2 : D.length + R.length ≤ k) : L ++ srt lt R = srt lt (D ++ R) := by
  rcases h.split hk with ⟨rfl, rfl⟩ | ⟨d1, D1, L1, rfl, rfl, hd1, h1⟩
  · rfl
  · have hR : R = [] := List.eq_nil_of_length_eq_zero (by simp at h2; omega)
    rcases h1.split hk with ⟨rfl, rfl⟩ | ⟨d2, D2, L2, rfl, rfl, hd2, h3⟩
    · subst hR; simp [srt]
    · simp at h2; omega
end
set_option maxHeartbeats 8000000 in
set_option maxRecDepth 100000 in
theorem stable_any (F : Nat) (cb : Array Value) (cf : Int → Int → Int) (Q : Int → Prop) (base g n cap : Nat) (D : List Int) (w : World)
    (eg : ∀ args w, (callFunc F args).run Tryz.prog w = .ok (.enter F args) w) (hcmp : Cmps F cb g cf Q w) (hW : Wk (ltc cf)) (hQ : ∀ x ∈ D, Q x)
    (hrow : RowI base g n cap D w) (hn : n ≤ 1000000000) :
    Calls Tryz.prog 330 #[.slice (some ⟨g, 0, none⟩) n cap, .int .i64 n, .func (.func F) #[] cb] w fun e w' => e = .returned (.tuple #[]) ∧ RowI base g n cap (srt (ltc cf) D) w' ∧ w.grownBy w' (some g) := by
  have hlen : D.length = n := hrow.2
  have HC := Lib.hid hcmp
  have HQ := Lib.hid hQ
  have HW := Lib.hid hW
  have HL := Lib.hid hlen
  have HR := Lib.hid hrow
  have HSY := Lib.hid (symM_any F cb cf Q base g n cap eg hW hn n)
  clear hcmp hQ hW hrow hlen
  go_enter Tryz.func330, Tryz.ntmps330
  go_wp2
  go_loopw [7, 8] (fun av bv wr => ∃ (a : Nat) (P L R : List Int), av = .int .i64 a ∧ bv = .int .i64 (a + 20) ∧ a ≤ n ∧ BlY (ltc cf) 20 P L ∧ P ++ R = D ∧ P.length = a ∧ RowI base g n cap (L ++ R) wr ∧ w.grownBy wr (some g)) (fun av _ _ => n - (intOf av).toNat)
  case atStart => exact ⟨0, [], [], D, rfl, rfl, by omega, .nil, rfl, rfl, HR.out, grefl _ _⟩
  case round =>
    obtain ⟨a, P, L, R, rfl, rfl, han, hB, hD, hP, hr, hg⟩ := hrel
    have hPR : a + R.length = n := by have := HL.out; rw [← hD, List.length_append] at this; omega
    have hLl : L.length = a := by rw [hB.len]; exact hP
    by_cases hlt : a + 20 ≤ n
    · have hltz : (a : Int) + 20 ≤ n := by omega
      obtain ⟨d, R', hR', hd⟩ : ∃ d R', R = d ++ R' ∧ d.length = 20 := ⟨R.take 20, R.drop 20, (List.take_append_drop _ _).symm, by rw [List.length_take]; omega⟩
      rw [hR'] at hr hD
      have HB := Lib.hid (hB.snoc hd)
      have HD := Lib.hid (show (P ++ d) ++ R' = D by rw [List.append_assoc]; exact hD)
      have HP := Lib.hid (show (P ++ d).length = a + 20 by simp; omega)
      obtain ⟨b, hb⟩ : ∃ b : Nat, b = a + 20 := ⟨_, rfl⟩
      have hc := fun W (hW : w.grownBy W (some g)) (hR : RowI base g n cap (L ++ (d ++ R')) W) => insSort_any F cb cf Q base g n cap a b L d R' W eg (HC.out.on hW) HW.out (fun x hx => HQ.out x (by rw [← HD.out]; simp [hx])) (by simpa using hR) hLl (by omega) hn
      have HROW := Lib.hid hr
      have HG := Lib.hid hg
      have ea : (a : Int) + 20 = (b : Int) := by omega
      have hbn : b ≤ n := by omega
      have hb20 : b + 20 ≤ 2000000000 := by omega
      have HBB := Lib.hid hb
      clear hr hg hR' hd hB hD hP hPR hLl hb
      go_wp2_with (go_at_call 346; refine (hc _ HG.out HROW.out).mono ?_; rintro e w2 ⟨rfl, hr2, hg2⟩)
      have HR2 := Lib.hid hr2
      have HG2 := Lib.hid (gtrans HG.out hg2)
      clear hr2 hg2 hc
      go_roundw
      case rel => exact ⟨b, P ++ d, L ++ srt (ltc cf) d, R', rfl, rfl, hbn, HB.out, HD.out, by rw [HBB.out]; exact HP.out, HR2.out, HG2.out⟩
      case measure => have := HBB.out; simp [intOf]; omega
    · have hltz : ¬ (a : Int) + 20 ≤ n := by omega
      have hc := fun W (hW : w.grownBy W (some g)) (hR : RowI base g n cap (L ++ R) W) => insSort_any F cb cf Q base g n cap a n L R [] W eg (HC.out.on hW) HW.out (fun x hx => HQ.out x (by rw [← hD]; simp [hx])) (by simpa using hR) hLl hPR hn
      have HROW := Lib.hid hr
      have HG := Lib.hid hg
      have HB := Lib.hid hB
      have HD := Lib.hid hD
      have HRL := Lib.hid (show R.length < 20 by omega)
      clear hr hg hB hD hP hPR hLl
      go_wp2_with (go_at_call 346; refine (hc _ HG.out HROW.out).mono ?_; rintro e w2 ⟨rfl, hr2, hg2⟩)
      have HR2 := Lib.hid (show RowI base g n cap (L ++ srt (ltc cf) R) w2 by simpa using hr2)
      have HG2 := Lib.hid (gtrans HG.out hg2)
      clear hr2 hg2 hc HROW HG
      go_loopw [6, 7, 8, 9] (fun kv _ _ _ wr => ∃ (k : Nat) (P L R : List Int), kv = .int .i64 k ∧ 20 ≤ k ∧ k ≤ 4000000000 ∧ BlY (ltc cf) k P L ∧ P ++ R = D ∧ R.length < k ∧ RowI base g n cap (L ++ srt (ltc cf) R) wr ∧ w.grownBy wr (some g)) (fun kv _ _ _ _ => n - (intOf kv).toNat)
      case atStart => exact ⟨20, P, L, R, rfl, by omega, by omega, HB.out, HD.out, HRL.out, HR2.out, HG2.out⟩
      case round =>
        clear HB HD HRL HR2 HG2 hlt hltz han
        obtain ⟨k, P, L, R, rfl, hk1, hk2, hB, hD, hRk, hr, hg⟩ := hrel
        have hPR : P.length + R.length = n := by have := HL.out; rw [← hD, List.length_append] at this; omega
        by_cases hkn : k < n
        · have hknz : (k : Int) < n := by omega
          obtain ⟨kk, hkk⟩ : ∃ kk : Nat, kk = 2 * k := ⟨_, rfl⟩
          have e2k : 2 * (k : Int) = (kk : Int) := by omega
          have ek2 : (k : Int) * 2 = (kk : Int) := by omega
          have hkkb : kk ≤ 2000000000 := by omega
          have HKK := Lib.hid hkk
          have HPR := Lib.hid hPR
          have HRK := Lib.hid hRk
          have HB := Lib.hid hB
          have HD := Lib.hid hD
          have HROW := Lib.hid hr
          have HG := Lib.hid hg
          clear hB hD hr hg hPR hkk hRk
          go_wp2
          go_loopw [7, 8] (fun av bv wr => ∃ (a : Nat) (E EL P' L' : List Int), av = .int .i64 a ∧ bv = .int .i64 ((a : Int) + kk) ∧ a ≤ n ∧ BlY (ltc cf) kk E EL ∧ BlY (ltc cf) k P' L' ∧ E ++ P' ++ R = D ∧ E.length = a ∧ RowI base g n cap (EL ++ L' ++ srt (ltc cf) R) wr ∧ w.grownBy wr (some g)) (fun av _ _ => n - (intOf av).toNat)
          case atStart => exact ⟨0, [], [], P, L, rfl, by go_num, by omega, .nil, HB.out, by simpa using HD.out, rfl, by simpa using HROW.out, HG.out⟩
          case round =>
            clear HB HD HROW HG HPR
            obtain ⟨a, E, EL, P', L', rfl, rfl, han, hE, hB, hD, hEa, hr, hg⟩ := hrel
            have hPR : a + P'.length + R.length = n := by have := HL.out; rw [← hD, List.length_append, List.length_append] at this; omega
            have hEL : EL.length = a := by rw [hE.len]; exact hEa
            obtain ⟨m, hm⟩ : ∃ m : Nat, m = a + k := ⟨_, rfl⟩
            have em : (a : Int) + k = (m : Int) := by omega
            have hkk := HKK.out
            have hRk := HRK.out
            by_cases hlt : a + kk ≤ n
            · obtain ⟨d1, d2, P2, L2, rfl, rfl, hd1, hd2, hB2⟩ := hB.two (by omega) hRk (by omega)
              obtain ⟨b, hb⟩ : ∃ b : Nat, b = a + kk := ⟨_, rfl⟩
              have eb : (a : Int) + kk = (b : Int) := by omega
              have hbn : b ≤ n := by omega
              have hbnz : (b : Int) ≤ n := by omega
              have hc := fun W (hW : w.grownBy W (some g)) (hR : RowI base g n cap (EL ++ (srt (ltc cf) d1 ++ srt (ltc cf) d2 ++ L2) ++ srt (ltc cf) R) W) => HSY.out a m b EL (srt (ltc cf) d1) (srt (ltc cf) d2) (L2 ++ srt (ltc cf) R) W (by omega) (HC.out.on hW) (fun y hy => HQ.out y (by rw [← hD]; simp [(srt_mem _ _).1 hy])) (fun y hy => HQ.out y (by rw [← hD]; simp [(srt_mem _ _).1 hy])) (srt_asc HW.out _) (srt_asc HW.out _) (by rw [srt_length]; omega) (by rw [srt_length]; omega) (by simpa using hR) hEL (by rw [srt_length]; omega) (by rw [srt_length]; omega)
              have HE := Lib.hid (hE.snoc (d := d1 ++ d2) (by simp; omega))
              have HSA := Lib.hid (srt_append HW.out d1 d2)
              have HB2 := Lib.hid hB2
              have HD := Lib.hid (show E ++ (d1 ++ d2) ++ P2 ++ R = D by rw [← hD]; simp)
              have HEb := Lib.hid (show (E ++ (d1 ++ d2)).length = b by simp; omega)
              have HROW := Lib.hid hr
              have HG := Lib.hid hg
              have HBB := Lib.hid hb
              clear hE hB2 hB hD hEa hr hg hPR hEL hd1 hd2 hb hm hkk hRk
              go_wp2_with (go_at_call 347; refine (hc _ HG.out HROW.out).mono ?_; rintro e w2 ⟨rfl, hr2, hg2⟩)
              have HR2 := Lib.hid hr2
              have HG2 := Lib.hid (gtrans HG.out hg2)
              clear hr2 hg2 hc
              go_roundw
              case rel => exact ⟨b, E ++ (d1 ++ d2), EL ++ srt (ltc cf) (d1 ++ d2), P2, L2, rfl, rfl, hbn, HE.out, HB2.out, HD.out, HEb.out, by rw [HSA.out]; simpa using HR2.out, HG2.out⟩
              case measure => have := HBB.out; have := HKK.out; simp [intOf]; omega
            · have hlt2 : ¬ (a : Int) + kk ≤ n := by omega
              rcases hB.one (by omega) (r := R.length) (by omega) with ⟨rfl, rfl⟩ | ⟨hPk, rfl⟩
              · have hmn : ¬ m < n := by simp at hPR; omega
                have hmnz : ¬ (m : Int) < n := by omega
                have HE := Lib.hid hE
                have HD := Lib.hid (show E ++ R = D by simpa using hD)
                have HRK2 := Lib.hid (show R.length < kk by omega)
                have HROW := Lib.hid (show RowI base g n cap (EL ++ srt (ltc cf) R) wr by simpa using hr)
                have HG := Lib.hid hg
                clear hE hD hr hg hPR hEL hEa hm hkk hRk hB
                go_wp2
                go_roundw
                case rel => exact ⟨kk, E, EL, R, rfl, by have := HKK.out; omega, by omega, HE.out, HD.out, HRK2.out, HROW.out, HG.out⟩
                case measure => have := HKK.out; simp [intOf]; omega
              · have HE := Lib.hid hE
                have HSA := Lib.hid (srt_append HW.out P' R)
                have HD := Lib.hid (show E ++ (P' ++ R) = D by rw [← hD]; simp)
                have HRK2 := Lib.hid (show (P' ++ R).length < kk by rw [List.length_append]; omega)
                have HROW := Lib.hid hr
                have HG := Lib.hid hg
                by_cases hmn : m < n
                · have hmnz : (m : Int) < n := by omega
                  have hc := fun W (hW : w.grownBy W (some g)) (hR : RowI base g n cap (EL ++ srt (ltc cf) P' ++ srt (ltc cf) R) W) => HSY.out a m n EL (srt (ltc cf) P') (srt (ltc cf) R) [] W (by omega) (HC.out.on hW) (fun y hy => HQ.out y (by rw [← hD]; simp [(srt_mem _ _).1 hy])) (fun y hy => HQ.out y (by rw [← hD]; simp [(srt_mem _ _).1 hy])) (srt_asc HW.out _) (srt_asc HW.out _) (by rw [srt_length]; omega) (by rw [srt_length]; omega) (by simpa using hR) hEL (by rw [srt_length]; omega) (by rw [srt_length]; omega)
                  clear hE hD hr hg hPR hEL hEa hm hkk hRk hB hPk
                  go_wp2_with (go_at_call 347; refine (hc _ HG.out HROW.out).mono ?_; rintro e w2 ⟨rfl, hr2, hg2⟩)
                  have HR2 := Lib.hid hr2
                  have HG2 := Lib.hid (gtrans HG.out hg2)
                  clear hr2 hg2 hc
                  go_roundw
                  case rel => exact ⟨kk, E, EL, P' ++ R, rfl, by have := HKK.out; omega, by omega, HE.out, HD.out, HRK2.out, by rw [HSA.out]; simpa using HR2.out, HG2.out⟩
                  case measure => have := HKK.out; simp [intOf]; omega
                · have hmnz : ¬ (m : Int) < n := by omega
                  have hR0 : R = [] := List.eq_nil_of_length_eq_zero (by omega)
                  have HR3 := Lib.hid (show RowI base g n cap (EL ++ srt (ltc cf) (P' ++ R)) wr by subst hR0; simpa [srt] using hr)
                  clear hE hD hr hg hPR hEL hEa hm hkk hRk hB hPk hR0
                  go_wp2
                  go_roundw
                  case rel => exact ⟨kk, E, EL, P' ++ R, rfl, by have := HKK.out; omega, by omega, HE.out, HD.out, HRK2.out, HR3.out, HG.out⟩
                  case measure => have := HKK.out; simp [intOf]; omega
        · have hknz : ¬ (k : Int) < n := by omega
          have hfin := hB.all HW.out (by omega) (R := R) (by omega)
          rw [hfin, hD] at hr
          have HROW := Lib.hid hr
          have HG := Lib.hid hg
          clear hB hD hPR hfin hr hg
          go_wp2
          go_end0
          exact ⟨rfl, HROW.out, HG.out⟩
theorem sortStable_any (F : Nat) (cb : Array Value) (cf : Int → Int → Int) (Q : Int → Prop) (base g n cap : Nat) (D : List Int) (w : World)
    (eg : ∀ args w, (callFunc F args).run Tryz.prog w = .ok (.enter F args) w) (hcmp : Cmps F cb g cf Q w) (hW : Wk (ltc cf)) (hQ : ∀ x ∈ D, Q x)
    (hrow : RowI base g n cap D w) (hn : n ≤ 1000000000) :
    Calls Tryz.prog 297 #[.slice (some ⟨g, 0, none⟩) n cap, .func (.func F) #[] cb] w fun e w' => e = .returned (.tuple #[]) ∧ RowI base g n cap (srt (ltc cf) D) w' ∧ w.grownBy w' (some g) := by
  have HC := Lib.hid (stable_any F cb cf Q base g n cap D w eg hcmp hW hQ hrow hn)
  clear hcmp hW hQ hrow
  go_enter Tryz.func297, Tryz.ntmps297
  go_wp2_with (go_at_call 330; refine HC.out.mono ?_; rintro e w2 ⟨rfl, hr2, hg2⟩)
  go_end0
  exact ⟨rfl, hr2, hg2⟩
theorem parts1_any (n : Int) (w : World) : Calls Tryz.prog 296 #[.int .i64 n] w fun e w' => e = .returned (.bool (!wgB n)) ∧ w = w' := by
  go_enter Tryz.func296, Tryz.ntmps296
  go_wp2_with (go_at_call 227; refine (weight_any _ _).mono ?_; rintro e w' ⟨rfl, rfl⟩)
  go_ret
  exact ⟨rfl, rfl⟩
theorem wgAny_any (P : Nat → Prop) (v : Value) (L : List Int) (w : World) (hS : Sl 1 encI P w v L) (hl : L.length ≤ 1000000) :
    Calls Tryz.prog 125 #[v, .func (.func 296) #[] #[]] w fun e w' => e = .returned (.bool (L.any fun w => !wgB w)) ∧ Below w.heap.size w w' :=
  containsI_any 296 #[] (fun w => !wgB w) P v L w (enters_of Tryz.func296 (by kernel_rfl) rfl) (fun W _ x _ => (parts1_any x W).mono fun e w' h => ⟨h.1, h.2 ▸ brefl⟩) hS hl
/-- what the comparison reads -/
structure CpBox (b2 b3 b6 : Nat) (t s : Int) (v : Value) (P : Nat → Prop) (W : List Int) (w : World) : Prop where
  c2 : w.cell? ⟨b2, 0, none⟩ = some (.int .i64 t)
  c3 : w.cell? ⟨b3, 0, none⟩ = some v
  c6 : w.cell? ⟨b6, 0, none⟩ = some (.int .i64 s)
  sl : Sl 1 encI P w v W
set_option maxHeartbeats 1000000 in
theorem parts2_any (b2 b3 b6 : Nat) (t s : Int) (v : Value) (P : Nat → Prop) (W : List Int) (i k : Int) (w : World) (h : CpBox b2 b3 b6 t s v P W w) (t0 : 0 ≤ t) (t1 : t ≤ 1000000000000) (s0 : 0 < s) (s1 : s ≤ 1000000000000)
    (hW : ∀ x ∈ W, 0 ≤ x ∧ x ≤ 1000000) (hl : W.length ≤ 1000000) (i0 : 0 ≤ i) (i1 : i < W.length) (k0 : 0 ≤ k) (k1 : k < W.length) :
    Calls Tryz.prog 298 (#[.int .i64 i, .int .i64 k] ++ #[.pointer (some ⟨b2, 0, none⟩), .pointer (some ⟨b3, 0, none⟩), .pointer (some ⟨b6, 0, none⟩)]) w fun e w' => e = .returned (.int .i64 (cfP t s W i k)) ∧ ∃ q, w' = w.drewN q := by
  obtain ⟨c2, c3, c6, hS⟩ := h
  obtain ⟨ao, n, c, rfl, hn, hnc, hcm⟩ := hS.shape
  obtain ⟨a, rfl⟩ := Int.eq_ofNat_of_zero_le i0
  obtain ⟨d, rfl⟩ := Int.eq_ofNat_of_zero_le k0
  obtain ⟨b, off, x, rfl, -, -, hx, hcx⟩ := hS.int (k := a) (by omega)
  obtain ⟨b', off', y, he, -, -, hy, hcy⟩ := hS.int (k := d) (by omega)
  cases he
  have bx := hW x (List.mem_of_getElem? hx)
  have by_ := hW y (List.mem_of_getElem? hy)
  have px := mul_bd t0 t1 bx.1 bx.2
  have py := mul_bd t0 t1 by_.1 by_.2
  have rx : rAt t s W (a : Int) = t * x % s := by simp [rAt, rstP, List.getD_eq_getElem?_getD, hx]
  have ry : rAt t s W (d : Int) = t * y % s := by simp [rAt, rstP, List.getD_eq_getElem?_getD, hy]
  have hcf : cfP t s W a d = cmpIY (t * y % s) (t * x % s) := by unfold cfP; rw [rx, ry]
  rw [hcf]
  have ex : (t * x).tmod s = t * x % s := Int.tmod_eq_emod_of_nonneg px.1
  have ey : (t * y).tmod s = t * y % s := Int.tmod_eq_emod_of_nonneg py.1
  obtain ⟨p, hp⟩ : ∃ p, t * x = p := ⟨_, rfl⟩
  obtain ⟨q, hq⟩ : ∃ q, t * y = q := ⟨_, rfl⟩
  rw [hp] at px ex
  rw [hq] at py ey
  rw [hp, hq]
  obtain ⟨r, hr⟩ : ∃ r, p % s = r := ⟨_, rfl⟩
  obtain ⟨u, hu⟩ : ∃ u, q % s = u := ⟨_, rfl⟩
  rw [hr] at ex
  rw [hu] at ey
  rw [hr, hu]
  have hr0 : 0 ≤ r ∧ r < s := by rw [← hr]; exact ⟨Int.emod_nonneg _ (by omega), Int.emod_lt_of_pos _ s0⟩
  have hu0 : 0 ≤ u ∧ u < s := by rw [← hu]; exact ⟨Int.emod_nonneg _ (by omega), Int.emod_lt_of_pos _ s0⟩
  have ha : (a : Int) < (n : Int) := by omega
  have hd : (d : Int) < (n : Int) := by omega
  have w1 : IntKind.i64.wrap p = p := IntWalk.i64_in _ (by omega)
  have w2 : IntKind.i64.wrap q = q := IntWalk.i64_in _ (by omega)
  have w3 : IntKind.i64.wrap r = r := IntWalk.i64_in _ (by omega)
  have w4 : IntKind.i64.wrap u = u := IntWalk.i64_in _ (by omega)
  have hs0 : (s == 0) = false := by simp; omega
  have hs1 : ¬ s = 0 := by omega
  obtain ⟨px0, px1⟩ := px
  obtain ⟨py0, py1⟩ := py
  clear hS hn hx hy rx ry hcf hr hu
  go_enter Tryz.func298, Tryz.ntmps298
  go_wp2_with fail
  go_quiet ((go_at_call 188; exact Calls.quiet_of_same ((compare_anyY _ _ _).mono fun _ _ h => ⟨h.1, h.2.symm⟩)))
  go_wp2
  go_ret
  exact ⟨rfl, _, rfl⟩
/-- what Parts leaves -/
def PartsMade (E : Int) (L : List Int) (w : World) (e : Ending) (w' : World) : Prop :=
  ∃ v, e = .returned (.tuple #[v, .int .i64 E]) ∧ Sl 1 encI (fun b => w.heap.size ≤ b) w' v L ∧ Below w.heap.size w w'
theorem partsMade_nil {E : Int} {L : List Int} {w w' : World} (hL : L = []) (hb : Below w.heap.size w w') : PartsMade E L w (.returned (.tuple #[.slice none 0 0, .int .i64 E])) w' := by
  subst hL; exact ⟨_, rfl, Sl.nil, hb⟩
theorem flatI (L : List Int) : flatE encI L = L.map cI := by
  induction L with
  | nil => rfl
  | cons x L ih => simp only [flatE, List.flatMap_cons] at ih ⊢; rw [ih]; rfl
def Two (v u : Value) : Prop := ∀ b, v.ownBlock = some b → u.ownBlock = some b → False
theorem two_far {v u : Value} (h : Two v u) : u.ownBlock = none ∨ u.ownBlock ≠ v.ownBlock := by
  cases hu : u.ownBlock with
  | none => exact .inl rfl
  | some b => exact .inr fun e => h b e.symm hu
theorem two_new {v u : Value} {w : World} {B z : Nat} {e : TypeId} {k : Nat} {ys : List Value} {g n c : Nat} (hu : w.ownsRow B e z u k ys) (h : Two v u) (hg : v.ownBlock = some g ∨ g = w.heap.size + 1) :
    (Value.slice (some ⟨g, 0, none⟩) n c).ownBlock = none ∨ (Value.slice (some ⟨g, 0, none⟩) n c).ownBlock ≠ u.ownBlock := by
  refine .inr fun e => ?_
  have e' : u.ownBlock = some g := e.symm
  rcases hg with hg | hg
  · exact h g hg e'
  · have := hu.lt g e'; omega
theorem two_end {w : World} {u : Value} {g n c g2 c' : Nat} (h : (Value.slice (some ⟨g, 0, none⟩) n c).ownBlock = none ∨ (Value.slice (some ⟨g, 0, none⟩) n c).ownBlock ≠ u.ownBlock) (hlt : g < w.heap.size) (hg : u.ownBlock = some g2 ∨ g2 = w.heap.size + 1) :
    Two (Value.slice (some ⟨g, 0, none⟩) n c) (Value.slice (some ⟨g2, 0, none⟩) n c') := by
  intro b e1 e2
  have e1' : g = b := by simpa [Value.ownBlock] using e1
  have e2' : g2 = b := by simpa [Value.ownBlock] using e2
  subst e1'
  subst e2'
  rcases hg with hg | hg
  · rcases h with h | h
    · simp [Value.ownBlock] at h
    · exact h hg.symm
  · omega
theorem _root_.Go.World.ownsRow.cap_le {w : World} {B z : Nat} {e : TypeId} {g n c : Nat} {xs : List Value} (h : w.ownsRow B e z (.slice (some ⟨g, 0, none⟩) n c) n xs) : n ≤ c := by
  rcases h.2 with ⟨h, _⟩ | ⟨g', cap, cur, h, _, _, hc, _⟩
  · cases h
  · cases h; exact hc
theorem cell_last {w : World} {B : Nat} {e : TypeId} {g k c : Nat} {L : List Value} {u : Value} (h : w.ownsRow B e 1 (.slice (some ⟨g, 0, none⟩) (k + 1) c) (k + 1) (L ++ [u])) : w.cell? ⟨g, k, none⟩ = some u := by
  rw [h.cellAt k (by omega)]
  have := h.1
  simp only [List.length_append, List.length_singleton] at this
  rw [List.getElem?_append_right (by omega), show k - L.length = 0 by omega]; rfl
set_option maxHeartbeats 8000000 in
set_option maxRecDepth 100000 in
theorem parts_any (t : Int) (P : Nat → Prop) (v : Value) (W : List Int) (w : World) (hS : Sl 1 encI P w v W) (hl : W.length ≤ 1000000) :
    Calls Tryz.prog 266 #[.int .i64 t, v] w (PartsMade (partsE t W) (partsL t W) w) := by
  obtain ⟨ao, n, c, rfl, hn, hnc, hcm⟩ := hS.shape
  have HN := Lib.hid hn
  have HS := Lib.hid hS
  have hn1 : n ≤ 1000000 := by omega
  have HWG := Lib.hid (fun U (hU : Below w.heap.size w U) => wgAny_any P _ W U (hS.below hU) hl)
  clear hS hn hl
  cases hT : inB t 0 1000000000000
  · have hE : partsE t W = 2 := by unfold partsE; rw [hT]; rfl
    have hL : partsL t W = [] := by unfold partsL; rw [hE]; rfl
    rw [hE]
    have HT := Lib.hid hT
    have HL := Lib.hid hL
    clear hE hL hT
    go_enter Tryz.func266, Tryz.ntmps266
    go_wp2_with (go_at_call 221; refine (valid_any _ _).mono ?_; rw [HT.out]; rintro e w1 ⟨rfl, rfl⟩)
    go_ret2
    exact partsMade_nil HL.out (bal (bal brefl _) _)
  have HT := Lib.hid hT
  obtain ⟨t0, t1⟩ := inB_iff.1 hT
  cases hA : W.any fun w => !wgB w
  · by_cases h200 : 200 < n
    · have hE : partsE t W = 3 := by unfold partsE; rw [hT, hA]; simp [show 200 < W.length by have := HN.out; omega]
      have hL : partsL t W = [] := by unfold partsL; rw [hE]; rfl
      rw [hE]
      have HL := Lib.hid hL
      have HA := Lib.hid hA
      have hz : ((200 : Int) < n) := by omega
      clear hE hL hT hA
      go_enter Tryz.func266, Tryz.ntmps266
      go_wp2_with (go_at_call 221; refine (valid_any _ _).mono ?_; rw [HT.out]; rintro e w1 ⟨rfl, rfl⟩)
      go_wp2_with fail
      refine (HWG.out _ (bal (bal brefl _) _)).mono ?_
      rw [HA.out]
      rintro e w1 ⟨rfl, hb1⟩
      have x3 := (hb1.cell (p := ⟨w.heap.size + 1, 0, none⟩) (by simp)).trans ((World.cell?_alloc_at _ _ _ _ (by simp)).trans rfl)
      have HB1 := Lib.hid (bup (bal (bal brefl _) _) hb1)
      clear hb1
      go_wp2
      go_ret2
      exact partsMade_nil HL.out HB1.out
    · have hwg := wg_all hA
      have hST := Lib.hid (sum_take hwg)
      have hE : partsE t W = if sumI W = 0 then 1 else 0 := by unfold partsE; rw [hT, hA]; simp [show ¬ 200 < W.length by have := HN.out; omega]
      have HE := Lib.hid hE
      have HA := Lib.hid hA
      have HW := Lib.hid hwg
      have hz : ¬ ((200 : Int) < n) := by omega
      have hn2 : n ≤ 200 := by omega
      clear hE hT hA hwg
      go_enter Tryz.func266, Tryz.ntmps266
      go_wp2_with (go_at_call 221; refine (valid_any _ _).mono ?_; rw [HT.out]; rintro e w1 ⟨rfl, rfl⟩)
      go_wp2_with fail
      refine (HWG.out _ (bal (bal brefl _) _)).mono ?_
      rw [HA.out]
      rintro e w1 ⟨rfl, hb1⟩
      have x3 := (hb1.cell (p := ⟨w.heap.size + 1, 0, none⟩) (by simp)).trans ((World.cell?_alloc_at _ _ _ _ (by simp)).trans rfl)
      have x2 := (hb1.cell (p := ⟨w.heap.size, 0, none⟩) (by simp; omega)).trans ((World.cell?_alloc_past _ _ _ (by simp)).trans ((World.cell?_alloc_at _ _ _ _ rfl).trans rfl))
      have HB1 := Lib.hid (bup (bal (bal brefl _) _) hb1)
      have z1 : w.heap.size + 2 ≤ w1.heap.size := by have := hb1.size; simp at this; omega
      clear hb1
      have z2 : w.heap.size + 1 < w1.heap.size := by omega
      have z3 : w.heap.size < w1.heap.size := by omega
      go_wp2
      go_loopw [28] (fun iv wr => ∃ k : Nat, k ≤ n ∧ iv = .int .i64 k ∧ wr.cell? ⟨w1.heap.size, 0, none⟩ = some (.int .i64 (sumI (W.take k))) ∧ wr.frozen? ⟨w1.heap.size, 0, none⟩ = false ∧ Below w1.heap.size w1 wr ∧ w1.heap.size < wr.heap.size) (fun iv _ => n - (intOf iv).toNat)
      case atStart =>
        refine ⟨0, by omega, rfl, ?_, ?_, ?_, ?_⟩
        · exact (World.cell?_alloc_at _ _ _ _ rfl).trans rfl
        · exact World.frozen?_alloc_at _ _ _ _ rfl
        · exact bal brefl _
        · simp
      case round =>
        obtain ⟨k, hk, rfl, h6, f6, hbr, hzr⟩ := hrel
        have y3 := (hbr.cell (p := ⟨w.heap.size + 1, 0, none⟩) (by simp only; omega)).trans x3
        have y2 := (hbr.cell (p := ⟨w.heap.size, 0, none⟩) (by simp only; omega)).trans x2
        obtain ⟨S, hSk⟩ : ∃ S, sumI (W.take k) = S := ⟨_, rfl⟩
        have sb := hST.out k
        rw [hSk] at sb h6
        have hWn : W.length = n := HN.out
        by_cases hlt : k < n
        · obtain ⟨b, off, x, rfl, -, -, hx, hc⟩ := (HS.out.below (bup HB1.out hbr)).int hlt
          have bx := HW.out x (List.mem_of_getElem? hx)
          have hnext := Lib.hid (show sumI (W.take (k + 1)) = S + x by rw [take_snocZ hx, sumI_append, hSk]; simp [sumI])
          have HBR := Lib.hid hbr
          clear hx hSk hbr
          go_wp2
          go_roundw
          case rel =>
            refine ⟨k + 1, by omega, by go_num, ?_, ?_, ?_, ?_⟩
            · rw [hnext.out]; exact World.cell?_setCell_same _ _ _ h6
            · rw [World.frozen?_setCell]; exact f6
            · exact bset HBR.out (Nat.le_refl _) _
            · simpa [World.setCell] using hzr
          case measure => simp [intOf]; omega
        · have hS0 : S = sumI W := by rw [← hSk, take_all (by omega)]
          by_cases h0 : S = 0
          · have hE1 : partsE t W = 1 := by rw [HE.out, if_pos (by omega)]
            have hL : partsL t W = [] := by unfold partsL; rw [hE1]; rfl
            have HL := Lib.hid hL
            have HBR := Lib.hid hbr
            subst h0
            have HE1 := Lib.hid hE1
            clear hE1 hL hbr hSk hS0
            go_wp2
            go_ret2
            rw [HE1.out]
            exact partsMade_nil HL.out (bup HB1.out HBR.out)
          · have hne : (S == 0) = false := by simpa using h0
            have hsp : 0 < S := by omega
            have hE1 : partsE t W = 0 := by rw [HE.out, if_neg (by omega)]
            have hL : partsL t W = partsR t S W := by unfold partsL; rw [hE1, if_pos rfl, hS0]
            have HE1 := Lib.hid hE1
            have HL := Lib.hid hL
            have HS0 := Lib.hid hS0
            have HBR := Lib.hid hbr
            have hsmall : S ≤ 200000000 := by omega
            clear hE1 hL hbr hSk hS0 hST HE
            obtain ⟨i1, hi, hz0, hz1, hz2⟩ := info_parts infoInt
            have zr := hzr
            have z4 : w.heap.size < wr.heap.size := by omega
            have z5 : w.heap.size + 1 < wr.heap.size := by omega
            have hs0 : (S == 0) = false := hne
            have hs1 : ¬ S = 0 := h0
            have HBS := Lib.hid (fun k => sum_base_take (t := t) (W := W) t0 (by rw [← HS0.out]; exact hsp) (fun x hx => (HW.out x hx).1) k)
            have HTK := Lib.hid (show ∀ k, k < n → ∃ x, W[k]? = some x ∧ (baseP t S W)[k]? = some (t * x / S) from fun k hk => ⟨W[k]'(by have := HN.out; omega), by simp, by simp [baseP, List.getElem?_map, show k < W.length by have := HN.out; omega]⟩)
            rename World => Wo
            go_wp2
            go_loopw [9, 10, 11, 41] (fun lv ov dv iv wq => ∃ (k : Nat), k ≤ n ∧ iv = .int .i64 k ∧ lv = .int .i64 (t - sumI ((baseP t S W).take k)) ∧ wq.ownsRow Wo.heap.size 3 1 ov k (((baseP t S W).take k).map cI) ∧ wq.ownsRow Wo.heap.size 3 1 dv k ((idxs k).map cI) ∧ Two ov dv ∧ Below Wo.heap.size Wo wq) (fun _ _ _ iv _ => n - (intOf iv).toNat)
            case atStart => exact ⟨0, by omega, rfl, by simp [sumI], World.ownsRow_nil _ _ _ _, World.ownsRow_nil _ _ _ _, fun b h => by simp [Value.ownBlock] at h, brefl⟩
            case round =>
              obtain ⟨k2, hk2, rfl, rfl, hro, hrd, htw, hbq⟩ := hrel
              have q2 := (hbq.cell (p := ⟨w.heap.size, 0, none⟩) (by exact z4)).trans y2
              have q6 := (hbq.cell (p := ⟨w1.heap.size, 0, none⟩) (by exact hzr)).trans h6
              have zq := hbq.size
              have zq4 : w.heap.size < wr.heap.size := by omega
              have zq6 : w1.heap.size < wr.heap.size := by omega
              obtain ⟨A0, hA0⟩ : ∃ A0, sumI ((baseP t S W).take k2) = A0 := ⟨_, rfl⟩
              have bA := HBS.out k2
              rw [← HS0.out, hA0] at bA
              have HRO := Lib.hid hro
              have HRD := Lib.hid hrd
              have HTW := Lib.hid htw
              have HBQ := Lib.hid hbq
              have hbq3 := hbq
              clear hro hrd htw hbq
              by_cases hlt : k2 < n
              · clear hbq3
                obtain ⟨b, off, x, rfl, -, -, hx, hc⟩ := (HS.out.below (bup (bup HB1.out HBR.out) HBQ.out)).int hlt
                obtain ⟨x', hx', hbx⟩ := HTK.out k2 hlt
                cases hx.symm.trans hx'
                have bx := HW.out x (List.mem_of_getElem? hx)
                have px := mul_bd t0 t1 bx.1 bx.2
                have bA1 := HBS.out (k2 + 1)
                rw [← HS0.out, take_snocZ hbx, sumI_append, hA0] at bA1
                have eq1 : (t * x).tdiv S = t * x / S := Int.tdiv_eq_ediv_of_nonneg px.1
                have HBX := Lib.hid hbx
                obtain ⟨p, hp⟩ : ∃ p, t * x = p := ⟨_, rfl⟩
                obtain ⟨q, hq⟩ : ∃ q, p / S = q := ⟨_, rfl⟩
                have qb : 0 ≤ q ∧ q ≤ 1000000000000 := by
                  simp only [sumI, hp, hq] at bA1
                  have : 0 ≤ q := by rw [← hq, ← hp]; exact Int.ediv_nonneg px.1 (by omega)
                  omega
                have HNX := Lib.hid (show (baseP t S W).take (k2 + 1) = (baseP t S W).take k2 ++ [q] by rw [take_snocZ hbx, hp, hq])
                rw [hp] at px eq1
                rw [hq] at eq1
                have wp_ : IntKind.i64.wrap p = p := IntWalk.i64_in _ (by omega)
                have wq_ : IntKind.i64.wrap q = q := IntWalk.i64_in _ (by omega)
                clear hx hx' hbx
                go_wp2_with (first
                  | (at_builtin; refine wpList_append_lies _ rfl _ _ 22 rfl Wo.heap.size 3 i1 (.int .i64 0) 1 8 Tryz.underlying22 hi hz0 hz1 hz2 rfl (by decide) u10 k2 (((baseP t S W).take k2).map cI) rfl (HRO.out.alloc _) ⟨wr.heap.size, 0, none⟩ 1 1 [.int .i64 q] rfl rfl (news1 _ _ _) (one1 _ _) (by omega) (by unfold maxLen; omega) (by omega) (by simp; omega) (wr.heap.size + 1) (by simp) ?_; intro g1 c1 w2 o2 gr2 at2 lt2; have hd2 := (HRD.out.alloc _).kept gr2 (two_far HTW.out); have b2 : Below Wo.heap.size Wo w2 := (HBQ.out.alloc HBQ.out.size _).grown gr2 (by simp; omega) (fun q hq => (HRO.out.lt q hq).1); have f2 := two_new (n := k2 + 1) (c := c1) HRD.out HTW.out (at2.imp id fun e => by simpa using e); have O2 := Lib.hid o2; have D2 := Lib.hid hd2; have B2 := Lib.hid b2; have F2 := Lib.hid f2; clear o2 gr2 at2 hd2 b2 f2)
                  | (at_builtin; refine wpList_append_lies _ rfl _ _ 22 rfl Wo.heap.size 3 i1 (.int .i64 0) 1 8 Tryz.underlying22 hi hz0 hz1 hz2 rfl (by decide) u11 k2 ((idxs k2).map cI) rfl (D2.out.alloc _) ⟨w2.heap.size, 0, none⟩ 1 1 [.int .i64 k2] rfl rfl (news1 _ _ _) (one1 _ _) (by omega) (by unfold maxLen; omega) (by omega) (by have := B2.out.size; simp; omega) (w2.heap.size + 1) (by simp) ?_; intro g2 c2 w3 o3 gr3 at3 lt3; have hd3 := (O2.out.alloc _).kept gr3 (F2.out); have b3 : Below Wo.heap.size Wo w3 := (B2.out.alloc B2.out.size _).grown gr3 (by have := B2.out.size; simp; omega) (fun q hq => (D2.out.lt q hq).1); have hco := cell_last hd3; have O3 := Lib.hid o3; have D3 := Lib.hid hd3; have B3 := Lib.hid b3; have F3 := Lib.hid (two_end (n := k2 + 1) (c := c1) (c' := c2) F2.out lt2 at3); have ho3 := hd3.frozenAt 0; clear o3 gr3 at3 hd3 b3 ho3))
                clear HRO HRD HTW
                have hA1 : sumI ((baseP t S W).take (k2 + 1)) = A0 + q := by rw [HNX.out, sumI_append, hA0]; simp [sumI]
                have HA1 := Lib.hid hA1
                clear hA1 hA0
                go_roundw
                case rel =>
                  refine ⟨k2 + 1, by omega, by go_num, ?_, ?_, ?_, F3.out, B3.out⟩
                  · rw [HA1.out]; go_num
                  · rw [HNX.out, List.map_append]; exact D3.out
                  · rw [idxs_succ, List.map_append]; exact O3.out
                case measure => simp [intOf]; omega
              · have hkn : k2 = n := by omega
                subst hkn
                obtain ⟨g1, c1, rfl, hg1, hg1z⟩ := HRO.out.form (by omega)
                obtain ⟨g2, c2, rfl, hg2', hg2z⟩ := HRD.out.form (by omega)
                have hgg : g1 ≠ g2 := fun e => HTW.out g1 rfl (by rw [e]; rfl)
                have q3 := (hbq3.cell (p := ⟨w.heap.size + 1, 0, none⟩) (by exact z5)).trans y3
                have HRI := Lib.hid (show RowI Wo.heap.size g2 k2 c2 (idxs k2) wr from ⟨HRD.out, idxs_length _⟩)
                have HRU := Lib.hid (show RowI Wo.heap.size g1 k2 c1 (baseP t S W) wr from ⟨by have h := HRO.out; rw [take_all (by simp [baseP, HN.out])] at h; exact h, by simp [baseP, HN.out]⟩)
                have hcap : k2 ≤ c2 := HRD.out.cap_le
                have HLB := Lib.hid (left_bd (t := t) (W := W) t0 (by rw [← HS0.out]; exact hsp))
                rw [take_all (by simp [baseP, HN.out])] at hA0
                obtain ⟨m, hm⟩ := Int.eq_ofNat_of_zero_le (show 0 ≤ t - A0 by omega)
                have hml : leftP t S W = m := by rw [leftP, hA0]; exact hm
                have hm2 : t - sumI ((baseP t S W).take k2) = m := by rw [take_all (by simp [baseP, HN.out]), hA0]; exact hm
                have hmk : m < k2 := by have h := HLB.out.2; rw [← HS0.out, hml, HN.out] at h; omega
                have HML := Lib.hid hml
                have HSL := Lib.hid ((HS.out.mono (Q := fun b => b < w.heap.size) (fun b _ h => h)).below (bup (bup HB1.out HBR.out) HBQ.out))
                have HSO := Lib.hid (sortStable_any 298 #[.pointer (some ⟨w.heap.size, 0, none⟩), .pointer (some ⟨w.heap.size + 1, 0, none⟩), .pointer (some ⟨w1.heap.size, 0, none⟩)] (cfP t S W) (fun x => 0 ≤ x ∧ x < W.length) Wo.heap.size g2 k2 c2 (idxs k2) wr (enters_of Tryz.func298 (by kernel_rfl) rfl)
                  (fun W' hW x y hx hy => parts2_any w.heap.size (w.heap.size + 1) w1.heap.size t S (.slice ao k2 c) (fun b => b < w.heap.size) W x y W' ⟨hW.cell (by simpa using q2) (by simp; omega), hW.cell (by simpa using q3) (by simp; omega), hW.cell q6 (by simp; omega), HSL.out.grown hW (fun b hb => by omega)⟩ t0 t1 hsp (by omega) HW.out (by rw [HN.out]; omega) hx.1 hx.2 hy.1 hy.2)
                  (cfP_wk _ _ _) (fun x hx => by have := idxs_mem hx; rw [HN.out]; exact this) HRI.out (by omega))
                have HORD := Lib.hid (show ordP t S W = srt (ltc (cfP t S W)) (idxs k2) by rw [ordP, HN.out])
                have HTK2 := Lib.hid (fun x (h : x ∈ ordP t S W) => ordP_mem h)
                have HBD := Lib.hid (base_bd (t := t) (W := W) t0 (by rw [← HS0.out]; exact hsp) (fun x hx => (HW.out x hx).1))
                have HLEN := Lib.hid (show (ordP t S W).length = k2 by rw [ordP_length, HN.out])
                clear HRO HRD HTW HRI HLB hml hA0 hm
                go_wp2_with (go_at_call 297; refine HSO.out.mono ?_; rintro e w2 ⟨rfl, hr2, hg2⟩)
                have HG2 := Lib.hid hg2
                have HR2 := Lib.hid (HORD.out ▸ hr2 : RowI Wo.heap.size g2 k2 c2 (ordP t S W) w2)
                have HU2 := Lib.hid (show RowI Wo.heap.size g1 k2 c1 (baseP t S W) w2 from ⟨HRU.out.1.kept hg2 (.inr (by simpa [Value.ownBlock] using hgg)), HRU.out.2⟩)
                clear hr2 hg2 q2 q3 q6 HSO
                go_loopw [72] (fun iv wz => ∃ (k : Nat), k ≤ m ∧ iv = .int .i64 k ∧ RowI Wo.heap.size g1 k2 c1 (bump (baseP t S W) ((ordP t S W).take k)) wz ∧ w2.grownBy wz (some g1)) (fun iv _ => m - (intOf iv).toNat)
                case atStart => exact ⟨0, by omega, rfl, HU2.out, grefl _ _⟩
                case round =>
                  obtain ⟨k3, hk3, rfl, hru, hgr⟩ := hrel
                  by_cases hlt3 : k3 < m
                  · obtain ⟨x, hx⟩ : ∃ x, (ordP t S W)[k3]? = some x := ⟨_, List.getElem?_eq_getElem (by have := HLEN.out; omega)⟩
                    have bx := HTK2.out x (List.mem_of_getElem? hx)
                    rw [HN.out] at bx
                    obtain ⟨a, rfl⟩ := Int.eq_ofNat_of_zero_le bx.1
                    have cx := (hgr.cell (HR2.out.at_ hx).1 (by simpa using Ne.symm hgg))
                    obtain ⟨y, hy⟩ : ∃ y, (bump (baseP t S W) ((ordP t S W).take k3))[a]? = some y := ⟨_, List.getElem?_eq_getElem (by rw [hru.2]; omega)⟩
                    obtain ⟨cy, fy⟩ := hru.at_ hy
                    have by_ := bump_bd (baseP t S W) ((ordP t S W).take k3) (B := t) (by rw [HS0.out]; exact HBD.out) y (List.mem_of_getElem? hy)
                    have hlk : ((ordP t S W).take k3).length ≤ k3 := by rw [List.length_take]; omega
                    have hset := hru.set a (y + 1)
                    have hbump : bump (baseP t S W) ((ordP t S W).take (k3 + 1)) = (bump (baseP t S W) ((ordP t S W).take k3)).set a (y + 1) := by
                      rw [take_snocZ hx, bump_append]
                      simp [bump, List.getD_eq_getElem?_getD, hy]
                    have HSET := Lib.hid hset
                    have HGR := Lib.hid hgr
                    have HBM := Lib.hid hbump
                    have y0 : 0 ≤ y := by_.1
                    have y1 : y ≤ 2000000000000 := by omega
                    have ha : (a : Int) < k2 := bx.2
                    have ha2 : a < k2 := by omega
                    have h3 : (k3 : Int) < m := by omega
                    clear hset hgr hbump hru hx hy by_ hlk
                    go_wp2
                    go_roundw
                    case rel => exact ⟨k3 + 1, by omega, by go_num, by rw [HBM.out]; exact HSET.out.1, gtrans HGR.out HSET.out.2⟩
                    case measure => simp [intOf]; omega
                  · have hkm : k3 = m := by omega
                    subst hkm
                    have HRF := Lib.hid (show RowI Wo.heap.size g1 k2 c1 (partsR t S W) wr from by rw [partsR, HML.out]; exact hru)
                    have HGR := Lib.hid hgr
                    clear hru hgr
                    go_wp2
                    go_ret2
                    rw [HE1.out, HL.out]
                    have hz : Wo.heap.size ≤ w2.heap.size := by have h1 := HBQ.out.size; have h2 := HG2.out.size; omega
                    have hb : Below Wo.heap.size Wo _ := (HBQ.out.grown HG2.out (by have := HBQ.out.size; omega) (fun q hq => by cases hq; exact hg2')).grown HGR.out hz (fun q hq => by cases hq; exact hg1)
                    exact ⟨_, rfl, Sl.own encI_len (by rw [flatI]; exact HRF.out.1) HRF.out.2 (fun b h => by omega), bup (bup HB1.out HBR.out) hb⟩
  · have hE : partsE t W = 2 := by unfold partsE; rw [hT, hA]; rfl
    have hL : partsL t W = [] := by unfold partsL; rw [hE]; rfl
    rw [hE]
    have HL := Lib.hid hL
    have HA := Lib.hid hA
    clear hE hL hT hA
    go_enter Tryz.func266, Tryz.ntmps266
    go_wp2_with (go_at_call 221; refine (valid_any _ _).mono ?_; rw [HT.out]; rintro e w1 ⟨rfl, rfl⟩)
    go_wp2_with fail
    refine (HWG.out _ (bal (bal brefl _) _)).mono ?_
    rw [HA.out]
    rintro e w1 ⟨rfl, hb1⟩
    go_wp2
    go_ret2
    exact partsMade_nil HL.out (bup (bal (bal brefl _) _) hb1)
theorem infoSl : (Tryz.prog.info? 22).map (fun i => (i.zero, i.size, i.bytes)) = some (some (.slice none 0 0), 1, 24) := by kernel_rfl
theorem infoRk : (Tryz.prog.info? 233).map (fun i => (i.zero, i.size, i.bytes)) = some (some (.agg #[.slice none 0 0]), 1, 24) := by kernel_rfl
def encV (v : Value) : List Value := [v]
theorem encV_len (v : Value) : (encV v).length = 1 := rfl
/-- each value reads as its list -/
def RowsI (P : Nat → Prop) (w : World) (vs : List Value) (GG : List (List Int)) : Prop :=
  vs.length = GG.length ∧ ∀ (k : Nat) (u : Value) (G : List Int), vs[k]? = some u → GG[k]? = some G → Sl 1 encI P w u G
/-- a row of rows of numbers -/
def SlsI (P : Nat → Prop) (w : World) (v : Value) (GG : List (List Int)) : Prop := ∃ vs, Sl 1 encV P w v vs ∧ RowsI P w vs GG
theorem RowsI.below {P : Nat → Prop} {w w' : World} {vs : List Value} {GG : List (List Int)} (h : RowsI P w vs GG) (hb : Below w.heap.size w w') : RowsI P w' vs GG :=
  ⟨h.1, fun k u G hu hG => (h.2 k u G hu hG).below hb⟩
theorem RowsI.nil {P : Nat → Prop} {w : World} : RowsI P w [] [] := ⟨rfl, fun k u G h => by simp at h⟩
theorem RowsI.snoc {P : Nat → Prop} {w : World} {vs : List Value} {GG : List (List Int)} {u : Value} {G : List Int} (h : RowsI P w vs GG) (hu : Sl 1 encI P w u G) : RowsI P w (vs ++ [u]) (GG ++ [G]) := by
  refine ⟨by simp [h.1], fun k x y hx hy => ?_⟩
  rcases Nat.lt_or_ge k vs.length with hk | hk
  · rw [List.getElem?_append_left hk] at hx
    rw [List.getElem?_append_left (by rw [← h.1]; exact hk)] at hy
    exact h.2 k x y hx hy
  · have hlt := (List.getElem?_eq_some_iff.1 hx).1
    simp only [List.length_append, List.length_cons, List.length_nil] at hlt
    obtain rfl : k = vs.length := by omega
    rw [List.getElem?_append_right (Nat.le_refl _), Nat.sub_self] at hx
    rw [h.1, List.getElem?_append_right (Nat.le_refl _), Nat.sub_self] at hy
    simp only [List.getElem?_cons_zero, Option.some.injEq] at hx hy
    subst hx hy
    exact hu
theorem SlsI.below {P : Nat → Prop} {w w' : World} {v : Value} {GG : List (List Int)} (h : SlsI P w v GG) (hb : Below w.heap.size w w') : SlsI P w' v GG := by
  obtain ⟨vs, h1, h2⟩ := h
  exact ⟨vs, h1.below hb, h2.below hb⟩
theorem RowsI.mono {P Q : Nat → Prop} {w : World} {vs : List Value} {GG : List (List Int)} (h : RowsI P w vs GG) (hq : ∀ b, P b → b < w.heap.size → Q b) : RowsI Q w vs GG :=
  ⟨h.1, fun k u G hu hG => (h.2 k u G hu hG).mono hq⟩
theorem SlsI.shape {P : Nat → Prop} {w : World} {v : Value} {GG : List (List Int)} (h : SlsI P w v GG) : ∃ ao n c, v = .slice ao n c ∧ GG.length = n ∧ n ≤ c ∧ c ≤ maxLen := by
  obtain ⟨vs, h1, h2⟩ := h
  obtain ⟨ao, n, c, h3, h4, h5, h6⟩ := h1.shape
  exact ⟨ao, n, c, h3, by rw [← h2.1]; exact h4, h5, h6⟩
/-- the place of a row -/
theorem SlsI.at_ {P : Nat → Prop} {w : World} {ao : Option Addr} {n c k : Nat} {GG : List (List Int)} (h : SlsI P w (.slice ao n c) GG) (hk : k < n) :
    ∃ b off ga gn gc G, ao = some ⟨b, off, none⟩ ∧ P b ∧ b < w.heap.size ∧ GG[k]? = some G ∧ w.cell? ⟨b, off + k, none⟩ = some (.slice ga gn gc) ∧ G.length = gn ∧ Sl 1 encI P w (.slice ga gn gc) G := by
  obtain ⟨vs, h1, h2⟩ := h
  obtain ⟨b, off, u, e1, e2, e3, e4, e5⟩ := h1.at_ hk
  have hG : k < GG.length := by rw [← h2.1, h1.len]; exact hk
  have hS := h2.2 k u GG[k] e4 (List.getElem?_eq_getElem hG)
  obtain ⟨ga, gn, gc, rfl, hgn, -, -⟩ := hS.shape
  exact ⟨b, off, ga, gn, gc, GG[k], e1, e2, e3, List.getElem?_eq_getElem hG, by simpa using e5 0 _ rfl, hgn, hS⟩
theorem oneVs {P : Nat → Prop} {w : World} {vs : List Value} {GG : List (List Int)} (h : RowsI P w vs GG) : ∀ u ∈ flatE encV vs, u.oneCell' = true := by
  intro u hu
  simp only [flatE, List.mem_flatMap, encV, List.mem_singleton] at hu
  obtain ⟨x, hx, rfl⟩ := hu
  obtain ⟨k, hk⟩ := List.mem_iff_getElem?.1 hx
  have hG : k < GG.length := by rw [← h.1]; exact (List.getElem?_eq_some_iff.1 hk).1
  obtain ⟨ga, gn, gc, rfl, -, -, -⟩ := (h.2 k _ GG[k] hk (List.getElem?_eq_getElem hG)).shape
  rfl
/-- the rows stay while the row that holds them grows -/
theorem RowsI.app {B g : Nat} {U U' : World} {ov v' : Value} {us : List Value} {GG : List (List Int)} (h : RowsI (fun b => B ≤ b ∧ some b ≠ ov.ownBlock) U us GG) (hg : U.grownBy U' ov.ownBlock) (hloc : v'.ownBlock = ov.ownBlock ∨ v'.ownBlock = some g) (hgz : U.heap.size ≤ g) :
    RowsI (fun b => B ≤ b ∧ some b ≠ v'.ownBlock) U' us GG := by
  refine ⟨h.1, fun k u G hu hG => ?_⟩
  have h1 : Sl 1 encI (fun b => (B ≤ b ∧ some b ≠ ov.ownBlock) ∧ some b ≠ v'.ownBlock) U u G := (h.2 k u G hu hG).mono fun b hb hlt => ⟨hb, by
    rcases hloc with h2 | h2
    · rw [h2]; exact hb.2
    · rw [h2]; intro e; cases e; omega⟩
  exact (h1.block hg.size fun b hb hlt => hg.block b hlt hb.1.2).mono fun b hb _ => ⟨hb.1.1, hb.2⟩
/-- the ranks are served, one behind the other -/
def srvL : Int → List (List Int) → List (List Int)
  | _, [] => []
  | left, r :: rs => (if left < sumI r then partsL left r else r) :: srvL (left - min left (sumI r)) rs
/-- lots that can be served -/
structure RanksOk (RR : List (List Int)) : Prop where
  n : RR.length ≤ 100
  k : ∀ r ∈ RR, r.length ≤ 100
  b : ∀ r ∈ RR, ∀ x ∈ r, 0 ≤ x ∧ x ≤ 1000000
theorem sumI_bd {r : List Int} (hl : r.length ≤ 100) (hb : ∀ x ∈ r, 0 ≤ x ∧ x ≤ 1000000) : 0 ≤ sumI r ∧ sumI r ≤ 100000000 := by
  refine ⟨sumI_nonneg fun x hx => (hb x hx).1, ?_⟩
  have := sumI_le (L := r) (B := 1000000) fun x hx => (hb x hx).2
  omega
theorem sumI_snoc {L : List Int} {k : Nat} {x : Int} (h : L[k]? = some x) : sumI (L.take (k + 1)) = sumI (L.take k) + x := by
  rw [take_snocZ h, sumI_append]; simp [sumI]
set_option maxHeartbeats 8000000 in
set_option maxRecDepth 100000 in
theorem serve_any (left : Int) (P : Nat → Prop) (v : Value) (RR : List (List Int)) (w : World) (hS : SlsI P w v RR) (hR : RanksOk RR) (h0 : 0 ≤ left) (h1 : left ≤ 1000000) :
    Calls Tryz.prog 209 #[.int .i64 left, v] w fun e w' => ∃ v', e = .returned v' ∧ SlsI (fun b => w.heap.size ≤ b) w' v' (srvL left RR) ∧ Below w.heap.size w w' := by
  obtain ⟨ao, n, c, rfl, hn, -, -⟩ := hS.shape
  have hn100 : n ≤ 100 := by have := hR.n; omega
  obtain ⟨M, hM⟩ : ∃ M, srvL left RR = M := ⟨_, rfl⟩
  rw [hM]
  have HS := Lib.hid hS
  have HR := Lib.hid hR
  have HN := Lib.hid hn
  have HM := Lib.hid hM
  obtain ⟨i1, hi, hz0, hz1, hz2⟩ := info_parts infoSl
  clear hS hR hn hM
  go_enter Tryz.func209, Tryz.ntmps209
  go_wp2
  go_loopw [0, 5, 14] (fun lv ov iv wr => ∃ (k : Nat) (lf : Int) (us : List Value) (acc : List (List Int)), k ≤ n ∧ iv = .int .i64 k ∧ lv = .int .i64 lf ∧ 0 ≤ lf ∧ lf ≤ left ∧ acc ++ srvL lf (RR.drop k) = M ∧ us.length ≤ k ∧ wr.ownsRow w.heap.size 22 1 ov us.length (flatE encV us) ∧ RowsI (fun b => w.heap.size ≤ b ∧ some b ≠ ov.ownBlock) wr us acc ∧ Below w.heap.size w wr) (fun _ _ iv _ => n - (intOf iv).toNat)
  case atStart => exact ⟨0, left, [], [], by omega, rfl, rfl, h0, Int.le_refl _, HM.out, by simp, World.ownsRow_nil _ _ _ _, RowsI.nil, brefl⟩
  case round =>
    obtain ⟨k, lf, us, acc, hk, rfl, rfl, hl0, hl1, hacc, hul, hown, hrow, hbr⟩ := hrel
    have zr := hbr.size
    by_cases hlt : k < n
    · obtain ⟨bb, off, ga, gn, gc, G, rfl, -, hbb, hG, k0, hgn, hSG⟩ := (HS.out.below hbr).at_ hlt
      have hkz : (k : Int) < (n : Int) := by omega
      have hGm := List.mem_of_getElem? hG
      have hgl := HR.out.k G hGm
      have hgb := HR.out.b G hGm
      obtain ⟨hs0, hs1⟩ := sumI_bd hgl hgb
      rw [drop_cons hG] at hacc
      simp only [srvL] at hacc
      obtain ⟨S, hSS⟩ : ∃ S, sumI G = S := ⟨_, rfl⟩
      rw [hSS] at hacc hs0 hs1
      have HACC := Lib.hid hacc
      have HSG := Lib.hid hSG
      have HOWN := Lib.hid hown
      have HROW := Lib.hid hrow
      have HBR := Lib.hid hbr
      have HGB := Lib.hid hgb
      have HGN := Lib.hid hgn
      have HSS := Lib.hid hSS
      have hgn100 : gn ≤ 100 := by omega
      clear hacc hSG hown hrow hbr hgb hGm hG hgl hSS hgn
      have hsl : wr.heap.size < (wr.alloc (.cells #[.slice ga gn gc] 233 (0, 0))).heap.size := by simp
      obtain ⟨W1, hW1⟩ : ∃ W, W = wr.alloc (.cells #[.slice ga gn gc] 233 (0, 0)) := ⟨_, rfl⟩
      have hb1 : Below wr.heap.size wr W1 := by rw [hW1]; exact bal brefl _
      have c0 : W1.cell? ⟨wr.heap.size, 0, none⟩ = some (.slice ga gn gc) := by rw [hW1]; exact World.cell?_alloc_at _ _ _ _ (by simp)
      have zW1 : wr.heap.size < W1.heap.size := World.block_lt_of_cell? _ _ c0
      have HSG1 := Lib.hid (HSG.out.below hb1)
      have HB1 := Lib.hid hb1
      have HW1 := Lib.hid hW1
      clear hW1 hb1 hsl
      go_upto_region 5 with fail
      rw [← HW1.out]
      go_wp2
      go_loopw [8, 21] (fun sv jv wq => ∃ j : Nat, j ≤ gn ∧ jv = .int .i64 j ∧ sv = .int .i64 (sumI (G.take j)) ∧ wq = W1) (fun _ jv _ => gn - (intOf jv).toNat)
      case atStart => exact ⟨0, by omega, rfl, rfl, rfl⟩
      case round =>
        obtain ⟨j, hj, rfl, rfl, hwq⟩ := hrel
        obtain rfl := hwq.symm
        by_cases hjl : j < gn
        · obtain ⟨gb, goff, x, rfl, -, hgbb, hx, g0⟩ := HSG1.out.int hjl
          have hjz : (j : Int) < (gn : Int) := by omega
          have hxb := HGB.out x (List.mem_of_getElem? hx)
          have hsn := sumI_snoc hx
          obtain ⟨hp0, hp1⟩ := sumI_bd (r := G.take j) (by rw [List.length_take]; omega) (fun y hy => HGB.out y (List.mem_of_mem_take hy))
          obtain ⟨s, hs⟩ : ∃ s, sumI (G.take j) = s := ⟨_, rfl⟩
          rw [hs] at hsn hp0 hp1 ⊢
          obtain ⟨hx0, hx1⟩ := hxb
          have HSN := Lib.hid hsn
          have hwr : wrap64 (s + x) = s + x := IntWalk.wrap64_in _ (by omega)
          clear hx hsn hs
          go_wp2
          go_roundw
          case rel => exact ⟨j + 1, by omega, by go_num, by rw [HSN.out], by first | rfl | trivial⟩
          case measure => simp [intOf]; omega
        · obtain rfl : gn = j := by omega
          rw [show G.take gn = G from List.take_of_length_le (by have := HGN.out; omega), HSS.out]
          have KC := Lib.hid (cloneEI_any (fun _ => True) (.slice ga gn gc) G W1 (HSG1.out.mono (fun _ _ _ => trivial)) (by have := HGN.out; omega))
          clear hjl
          go_wp2_with fail
          refine KC.out.mono ?_
          rintro e w2 ⟨cv, rfl, ho2, hb2⟩
          obtain ⟨va, vn, vc, rfl⟩ : ∃ a n c, cv = .slice a n c := by obtain ⟨a, c, h⟩ := own_sl ho2; exact ⟨a, _, c, h⟩
          have hS2 : Sl 1 encI (fun b => w.heap.size ≤ b ∧ some b ≠ u5.ownBlock) w2 (.slice va vn vc) G := Sl.own encI_len ho2 rfl (fun b hb => ⟨by have := HB1.out.size; omega, fun e => by have := (HOWN.out.lt b e.symm).2; have := HB1.out.size; omega⟩)
          have HS2 := Lib.hid hS2
          have HSG2 := Lib.hid (HSG1.out.below hb2)
          have HB2 := Lib.hid (bup HB1.out hb2)
          have c2 := keepB hb2 c0
          have z2 : wr.heap.size < w2.heap.size := by have := hb2.size; omega
          clear ho2 hb2 hS2
          by_cases hlS : lf < S
          · have hpe : partsE lf G = 0 := by
              unfold partsE
              rw [inB_iff.2 ⟨hl0, by omega⟩, if_pos rfl, if_neg (by
                rw [Bool.not_eq_true, List.any_eq_false]
                intro x hx
                obtain ⟨x0, x1⟩ := HGB.out x hx
                unfold wgB
                rw [inB_iff.2 ⟨x0, x1⟩]; simp), if_neg (by have := HGN.out; omega), if_neg (by rw [HSS.out]; omega)]
            have KP := Lib.hid (parts_any lf (fun _ => True) (.slice ga gn gc) G w2 (HSG2.out.mono (fun _ _ _ => trivial)) (by have := HGN.out; omega))
            rw [hpe] at KP
            have hacc := HACC.out
            rw [if_pos hlS, show min lf S = lf by omega] at hacc
            have HACC2 := Lib.hid hacc
            clear hacc hpe
            go_wp2_with fail
            refine KP.out.mono ?_
            rintro e w3 ⟨pv, rfl, hS3, hb3⟩
            obtain ⟨pa, pn, pc, rfl, -, -, -⟩ := hS3.shape
            have HB3 := Lib.hid (bup HB2.out hb3)
            have HROW3 := Lib.hid ((HROW.out.below HB3.out).snoc (u := .slice pa pn pc) (hS3.mono (fun b hb _ => ⟨by have := HB2.out.size; omega, fun e => by have := (HOWN.out.lt b e.symm).2; have := HB2.out.size; omega⟩)))
            have HOW3 := Lib.hid (ownsRow_belowZ HOWN.out HB3.out)
            have z3 : wr.heap.size < w3.heap.size := by have := hb3.size; omega
            have hone : (Value.slice pa pn pc).oneCell' = true := rfl
            clear hS3 hb3
            go_wp2_with (at_builtin; go_must (refine wpList_append_own_at _ rfl _ _ 236 rfl w.heap.size 22 i1 (.slice none 0 0) 1 24 Tryz.underlying236 hi hz0 hz1 hz2 rfl (by decide) _ _ _ rfl (HOW3.out.alloc _) ⟨_, 0, none⟩ 1 1 (encV (.slice pa pn pc)) rfl rfl (newsL _ _ _) (by intro u hu; simp only [encV, List.mem_singleton] at hu; subst hu; exact hone) (by unfold maxLen; omega) (by omega) (by simp; omega) ?_); intro v' w9 hown' hgrow _ hloc)
            go_roundw
            case rel => exact ⟨k + 1, lf - lf, us ++ [.slice pa pn pc], acc ++ [partsL lf G], by omega, by go_num, by go_num, by omega, by omega, by rw [List.append_assoc]; exact HACC2.out, by simp; omega, by rw [flatE_snoc, List.length_append]; exact hown', (HROW3.out.below (bal brefl _)).app hgrow hloc (Nat.le_refl _), HBR.out.trans ((((HB3.out.mono zr).alloc (by omega) _)).grown hgrow (by simp; omega) (fun q hq => (HOW3.out.lt q hq).1))⟩
            case measure => simp [intOf]; omega
          · have hacc := HACC.out
            rw [if_neg hlS, show min lf S = S by omega] at hacc
            have HACC2 := Lib.hid hacc
            have HROWC := Lib.hid ((HROW.out.below HB2.out).snoc (u := .slice va vn vc) (HS2.out.mono (fun b hb hlt => ⟨hb.1, hb.2⟩)))
            have HOWC := Lib.hid (ownsRow_belowZ HOWN.out HB2.out)
            have hone : (Value.slice va vn vc).oneCell' = true := rfl
            clear hacc
            go_wp2_with (at_builtin; go_must (refine wpList_append_own_at _ rfl _ _ 236 rfl w.heap.size 22 i1 (.slice none 0 0) 1 24 Tryz.underlying236 hi hz0 hz1 hz2 rfl (by decide) _ _ _ rfl (HOWC.out.alloc _) ⟨_, 0, none⟩ 1 1 (encV (.slice va vn vc)) rfl rfl (newsL _ _ _) (by intro u hu; simp only [encV, List.mem_singleton] at hu; subst hu; exact hone) (by unfold maxLen; omega) (by omega) (by simp; omega) ?_); intro v' w9 hown' hgrow _ hloc)
            go_roundw
            case rel => exact ⟨k + 1, lf - S, us ++ [.slice va vn vc], acc ++ [G], by omega, by go_num, by go_num, by omega, by omega, by rw [List.append_assoc]; exact HACC2.out, by simp; omega, by rw [flatE_snoc, List.length_append]; exact hown', (HROWC.out.below (bal brefl _)).app hgrow hloc (Nat.le_refl _), HBR.out.trans ((((HB2.out.mono zr).alloc (by omega) _)).grown hgrow (by simp; omega) (fun q hq => (HOWC.out.lt q hq).1))⟩
            case measure => simp [intOf]; omega
    · obtain rfl : n = k := by omega
      have hM : acc = M := by
        rw [← hacc, List.drop_of_length_le (by have := HN.out; omega)]; simp [srvL]
      subst hM
      have hfin : SlsI (fun b => w.heap.size ≤ b) wr u5 acc := ⟨us, Sl.own encV_len hown rfl (fun _ h => h), hrow.mono (fun b hb _ => hb.1)⟩
      have HFIN := Lib.hid hfin
      clear hacc hown hrow hfin
      go_wp2
      go_ret
      exact ⟨_, rfl, HFIN.out, hbr⟩
end Go.Proofs.YthjaofgdickkaaaGreat
