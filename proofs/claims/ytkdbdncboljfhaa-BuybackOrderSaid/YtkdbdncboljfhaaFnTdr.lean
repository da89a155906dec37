/- slices.IndexFunc, ContainsFunc, DeleteFunc at [](treasury/api.Tender), with a function value that may make memory. Printed by wip/gen/fnx.py. -/
import Derived.Test.YtkdbdncboljfhaaUp
import Derived.Test.YtkdbdncboljfhaaTypesA
import Derived.Test.YtkdbdncboljfhaaRowZ
import Derived.Test.YtkdbdncboljfhaaSortL
import Derived.Test.YtkdbdncboljfhaaDlP
import Derived.Test.YtkdbdncboljfhaaOwn
import Derived.BigQuiet
import Derived.ChangeAlike
import Derived.Shelf.Abstract
import Derived.RegionTactic
namespace Go.Proofs.Ytkdbdncboljfhaa
open Go.RowKit
set_option linter.unusedVariables false
set_option linter.unusedSimpArgs false
def uTdr (x : Tdr) : Value := .agg #[.int .i64 x.h, .int .i64 x.n, .int .i64 x.p, .int .i64 x.a]
/-- the function F, bound to cb, gives p at the elements with Q in every world above w; it may make memory -/
def PrdTdr (F : Nat) (cb : Array Value) (p : Tdr → Bool) (Q : Tdr → Prop) (w : World) : Prop :=
  ∀ W, Below w.heap.size w W → ∀ x, Q x → Calls Try.prog F (#[uTdr x] ++ cb) W fun e w' => e = .returned (.bool (p x)) ∧ Below W.heap.size W w'
theorem PrdTdr.on {F : Nat} {cb : Array Value} {p : Tdr → Bool} {Q : Tdr → Prop} {w w' : World} (h : PrdTdr F cb p Q w) (hb : Below w.heap.size w w') : PrdTdr F cb p Q w' := fun W hW x hx => h W (bup hb hW) x hx
set_option maxHeartbeats 2000000 in
theorem ixfTdr_any (P : Nat → Prop) (F : Nat) (cb : Array Value) (p : Tdr → Bool) (Q : Tdr → Prop) (v : Value) (L : List Tdr) (w : World)
    (eg : ∀ args w, (callFunc F args).run Try.prog w = .ok (.enter F args) w) (hp : PrdTdr F cb p Q w) (hQ : ∀ x ∈ L, Q x) (hS : Sl 4 encTdr P w v L) (hlen : L.length ≤ 1000000) :
    Calls Try.prog 33 #[v, .func (.func F) #[] cb] w fun e w' => e = .returned (.int .i64 (if L.findIdx p < L.length then (L.findIdx p : Int) else -1)) ∧ Below w.heap.size w w' := by
  obtain ⟨ao, n, c, rfl, hn, hnc, hcm⟩ := hS.shape
  have hn1 : n ≤ 1000000 := by omega
  rw [hn]
  obtain ⟨q, hq⟩ : ∃ q, L.findIdx p = q := ⟨_, rfl⟩
  rw [hq]
  obtain ⟨r, hr⟩ : ∃ r, (if q < n then (q : Int) else -1) = r := ⟨_, rfl⟩
  rw [hr]
  have HC := Lib.hid hp
  have HX := Lib.hid hQ
  have HS := Lib.hid hS
  have HN := Lib.hid hn
  have HP := Lib.hid hq
  have HR := Lib.hid hr
  clear hS hn hq hlen hr hp hQ
  go_enter Try.func33, Try.ntmps33
  go_wp2
  go_loopw [8] (fun iv wr => ∃ k : Nat, k ≤ n ∧ iv = .int .i64 k ∧ q = k + (L.drop k).findIdx p ∧ Below w.heap.size w wr) (fun iv _ => n - (intOf iv).toNat)
  case atStart => exact ⟨0, by omega, rfl, by rw [List.drop_zero, Nat.zero_add]; exact HP.out.symm, brefl⟩
  case round =>
    obtain ⟨k, hk, rfl, hpk, hbr⟩ := hrel
    have zr := hbr.size
    by_cases hlt : k < n
    · obtain ⟨b, off, vh, vn, vp, va, rfl, -, hb', hL, k0, k1, k2, k3⟩ := (HS.out.below hbr).tdr hlt
      rw [drop_cons hL, List.findIdx_cons] at hpk
      have hc := HC.out wr hbr ⟨vh, vn, vp, va⟩ (HX.out _ (List.mem_of_getElem? hL))
      obtain ⟨t, ht⟩ : ∃ t, p ⟨vh, vn, vp, va⟩ = t := ⟨_, rfl⟩
      simp only [ht, uTdr] at hc
      rw [ht] at hpk
      have HCC := Lib.hid hc
      have HBR := Lib.hid hbr
      clear hL ht hc hbr
      cases t with
      | true =>
        have hfin := Lib.hid (show (k : Int) = r by simp at hpk; rw [← HR.out, if_pos (by omega)]; omega)
        clear hpk
        go_wp2_with fail
        refine HCC.out.mono ?_
        rintro e w' ⟨rfl, hb⟩
        go_wp2
        go_ret
        exact ⟨ret_int hfin.out, bup HBR.out hb⟩
      | false =>
        have HPK := Lib.hid (show q = (k + 1) + (L.drop (k + 1)).findIdx p by simp at hpk; omega)
        clear hpk
        go_wp2_with fail
        refine HCC.out.mono ?_
        rintro e w' ⟨rfl, hb⟩
        go_wp2
        go_roundw
        case rel => exact ⟨k + 1, by omega, by go_num, HPK.out, bup HBR.out hb⟩
        case measure => simp [intOf]; omega
    · rw [drop_all (by have := HN.out; omega)] at hpk
      have hfin := Lib.hid (show (-1 : Int) = r by simp at hpk; rw [← HR.out, if_neg (by omega)])
      clear hpk
      go_wp2
      go_ret
      exact ⟨ret_int hfin.out, hbr⟩
theorem idwTdr_any (p : Tdr → Bool) : ∀ L : List Tdr, L.any p = decide (0 ≤ (if L.findIdx p < L.length then (L.findIdx p : Int) else -1))
  | [] => by simp
  | x :: L => by
    have ih := idwTdr_any p L
    rw [List.findIdx_cons, List.any_cons]
    cases p x
    · simp only [Bool.false_or, cond_false, List.length_cons, ih, decide_eq_decide]
      split <;> split <;> omega
    · simp
theorem cnfTdr_any (P : Nat → Prop) (F : Nat) (cb : Array Value) (p : Tdr → Bool) (Q : Tdr → Prop) (v : Value) (L : List Tdr) (w : World)
    (eg : ∀ args w, (callFunc F args).run Try.prog w = .ok (.enter F args) w) (hp : PrdTdr F cb p Q w) (hQ : ∀ x ∈ L, Q x) (hS : Sl 4 encTdr P w v L) (hlen : L.length ≤ 1000000) :
    Calls Try.prog 28 #[v, .func (.func F) #[] cb] w fun e w' => e = .returned (.bool (L.any p)) ∧ Below w.heap.size w w' := by
  have H := ixfTdr_any P F cb p Q v L w eg hp hQ hS hlen
  rw [idwTdr_any]
  obtain ⟨r, hr⟩ : ∃ r, (if L.findIdx p < L.length then (L.findIdx p : Int) else -1) = r := ⟨_, rfl⟩
  rw [hr] at H ⊢
  obtain ⟨ao, n, c, rfl, -, -, -⟩ := hS.shape
  have HH := Lib.hid H
  clear H hr hp hQ hS hlen
  go_enter Try.func28, Try.ntmps28
  go_wp2_with fail
  refine HH.out.mono ?_
  rintro e w1 ⟨rfl, hb⟩
  go_wp2
  go_ret
  exact ⟨ret_bool (by first | rfl | simp), hb⟩
/-- the function F, bound to cb, gives p at the elements with Q wherever block g alone has turned; it may make memory -/
def ProTdr (F : Nat) (cb : Array Value) (g : Option Nat) (p : Tdr → Bool) (Q : Tdr → Prop) (w : World) : Prop :=
  ∀ W, w.grownBy W g → ∀ x, Q x → Calls Try.prog F (#[uTdr x] ++ cb) W fun e w' => e = .returned (.bool (p x)) ∧ Below W.heap.size W w'
theorem ProTdr.on {F : Nat} {cb : Array Value} {g : Option Nat} {p : Tdr → Bool} {Q : Tdr → Prop} {w w' : World} (h : ProTdr F cb g p Q w) (hg : w.grownBy w' g) : ProTdr F cb g p Q w' := fun W hW x hx => h W (ztrans hg hW) x hx
theorem ProTdr.prd {F : Nat} {cb : Array Value} {g : Option Nat} {p : Tdr → Bool} {Q : Tdr → Prop} {w : World} (h : ProTdr F cb g p Q w) : PrdTdr F cb p Q w := fun W hW x hx => h W (zbelow hW _) x hx
set_option maxHeartbeats 8000000 in
set_option maxRecDepth 100000 in
theorem dlrTdr_any (F : Nat) (cb : Array Value) (p : Tdr → Bool) (Q : Tdr → Prop) (base g n cap : Nat) (L : List Tdr) (w : World)
    (eg : ∀ args w, (callFunc F args).run Try.prog w = .ok (.enter F args) w) (hp : ProTdr F cb (some g) p Q w) (hQ : ∀ x ∈ L, Q x) (hrow : RowZ 28 4 encTdr base g n cap L w) (hn : n ≤ 1000000) (hn0 : 0 < n) :
    Calls Try.prog 17 #[.slice (some ⟨g, 0, none⟩) n cap, .func (.func F) #[] cb] w fun e w' => e = .returned (.slice (some ⟨g, 0, none⟩) (L.filter fun x => !p x).length cap) ∧ RowZ 28 4 encTdr base g (L.filter fun x => !p x).length cap (L.filter fun x => !p x) w' ∧ w.grownBy w' (some g) := by
  have hln := hrow.2
  obtain ⟨g', cap', rest, he, hbg, hg0, hnc, hcm, hxl, hrl⟩ := own_whole hrow.1 hn0
  cases he
  have H := ixfTdr_any (fun _ => True) F cb p Q _ L w eg hp.prd hQ (Sl.own encTdr_len hrow.1 hln (fun _ _ => trivial)) (by omega)
  obtain ⟨M, hM⟩ : ∃ M, L.filter (fun x => !p x) = M := ⟨_, rfl⟩
  obtain ⟨q, hq⟩ : ∃ q, L.findIdx p = q := ⟨_, rfl⟩
  rw [hq, hln] at H
  rw [hM]
  have HC := Lib.hid hp
  have HX := Lib.hid hQ
  have HM := Lib.hid hM
  have HQ := Lib.hid hq
  have HR := Lib.hid hrow
  have HLN := Lib.hid hln
  have hcm' := hcm
  unfold maxLen at hcm
  clear hp hQ hM hq hrow hln hxl hrl hg0
  by_cases hlt : q < n
  · rw [if_pos hlt] at H
    have HH := Lib.hid H
    clear H
    have hqz : ((q : Int) == -1) = false := by first | (simp; done) | (simp; omega)
    go_enter Try.func17, Try.ntmps17
    go_wp2_with fail
    refine HH.out.mono ?_
    rintro e w1 ⟨rfl, hb1⟩
    have HB1 := Lib.hid hb1
    clear hb1
    go_wp2
    go_loopw [5, 6] (fun iv jv wr => ∃ (i j : Nat) (D : List Tdr), iv = .int .i64 i ∧ jv = .int .i64 j ∧ j ≤ n ∧ i < j ∧ DlI L p D i j ∧ RowZ 28 4 encTdr base g n cap D wr ∧ w.grownBy wr (some g)) (fun _ jv _ => n - (intOf jv).toNat)
    case atStart => exact ⟨q, q + 1, L, rfl, by go_num, by omega, by omega, DlI.start HQ.out (by rw [HLN.out]; exact hlt), HR.out.below HB1.out, zbelow HB1.out _⟩
    case round =>
      obtain ⟨i, j, D, rfl, rfl, hjn, hij, hI, hr, hg⟩ := hrel
      by_cases hj : j < n
      · obtain ⟨x, hx⟩ : ∃ x, L[j]? = some x := ⟨_, List.getElem?_eq_getElem (by have := HLN.out; omega)⟩
        have hDx : D[j]? = some x := hI.get.trans hx
        have hc := fun W (hW : Below wr.heap.size wr W) => HC.out W (ztrans hg (zbelow hW _)) x (HX.out x (List.mem_of_getElem? hx))
        obtain ⟨t, ht⟩ : ∃ t, p x = t := ⟨_, rfl⟩
        simp only [ht, uTdr] at hc
        have hiD := hI.ilt
        have hDn := hr.2
        have HI := Lib.hid hI
        have HRW := Lib.hid hr
        have HG := Lib.hid hg
        have HXX := Lib.hid hx
        have HT := Lib.hid ht
        have HCC := Lib.hid hc
        have c0 := HRW.out.cell encTdr_len (i := 0) hDx rfl
        have c1 := HRW.out.cell encTdr_len (i := 1) hDx rfl
        have c2 := HRW.out.cell encTdr_len (i := 2) hDx rfl
        have c3 := HRW.out.cell encTdr_len (i := 3) hDx rfl
        simp only [Nat.add_zero] at c0
        have hjz : (j : Int) < (n : Int) := by omega
        clear hc hI hr hg hx ht hDx
        cases t with
        | true =>
          go_wp2_with fail
          refine (HCC.out _ (bal brefl _)).mono ?_
          rintro e w2 ⟨rfl, hb2⟩
          have HB2 := Lib.hid (bup (bal brefl _) hb2)
          clear hb2
          go_wp2
          go_roundw
          case rel => exact ⟨i, j + 1, D, rfl, by go_num, by omega, by omega, HI.out.skip HXX.out HT.out, HRW.out.below HB2.out, ztrans HG.out (zbelow HB2.out _)⟩
          case measure => simp [intOf]; omega
        | false =>
          obtain ⟨y, hy⟩ : ∃ y, D[i]? = some y := ⟨_, List.getElem?_eq_getElem (by omega)⟩
          have HY := Lib.hid hy
          clear hy
          go_wp2_with fail
          refine (HCC.out _ (bal brefl _)).mono ?_
          rintro e w2 ⟨rfl, hb2⟩
          have HB2 := Lib.hid (bup (bal brefl _) hb2)
          have b0 := (show w2.cell? ⟨wr.heap.size, 0, none⟩ = some (.int .i64 x.h) from boxed_cell hb2 0 rfl)
          have b1 := (show w2.cell? ⟨wr.heap.size, 1, none⟩ = some (.int .i64 x.n) from boxed_cell hb2 1 rfl)
          have b2 := (show w2.cell? ⟨wr.heap.size, 2, none⟩ = some (.int .i64 x.p) from boxed_cell hb2 2 rfl)
          have b3 := (show w2.cell? ⟨wr.heap.size, 3, none⟩ = some (.int .i64 x.a) from boxed_cell hb2 3 rfl)
          have HRW2 := Lib.hid (HRW.out.below HB2.out)
          have d0 := HRW2.out.cell encTdr_len (i := 0) HY.out rfl
          have d1 := HRW2.out.cell encTdr_len (i := 1) HY.out rfl
          have d2 := HRW2.out.cell encTdr_len (i := 2) HY.out rfl
          have d3 := HRW2.out.cell encTdr_len (i := 3) HY.out rfl
          simp only [Nat.add_zero] at d0
          have fr := fun o => HRW2.out.fro o
          have iz : (i : Int) < (n : Int) := by omega
          clear hb2
          go_wp2
          go_roundw
          case rel =>
            have hs := HRW2.out.set encTdr_len (j := i) (by omega) x
            skip
            exact ⟨i + 1, j + 1, D.set i x, by go_num, by go_num, by omega, by omega, HI.out.keep HXX.out HT.out, hs.1, ztrans HG.out (ztrans (zbelow HB2.out _) hs.2)⟩
          case measure => simp [intOf]; omega
      · obtain rfl : j = n := by omega
        obtain ⟨i1, hi1, hz0, hz1, hz2⟩ := info_parts infoTdr
        obtain ⟨g', cap', rest, he, -, hgw, -, -, hxl, hrl⟩ := own_whole hr.1 hn0
        cases he
        obtain ⟨Z, hZ⟩ : ∃ Z : Value, Z = .agg #[.int .i64 0, .int .i64 0, .int .i64 0, .int .i64 0] := ⟨_, rfl⟩
        have hzl : (Builtin.zeroCells Z.cells (j - i)).toList.length = (j - i) * 4 := by rw [Array.length_toList, size_zeroCells, hZ]; rfl
        have hzo : ∀ u ∈ (Builtin.zeroCells Z.cells (j - i)).toList, u.oneCell' = true := zero_one (by
          rw [hZ]; intro u hu
          simp only [Value.cells, List.mem_cons, List.not_mem_nil, or_false] at hu
          rcases hu with rfl | rfl | rfl | rfl <;> rfl) _
        have hfit : i * 4 + (j - i) * 4 ≤ cap * 4 := by rw [← Nat.add_mul]; exact Nat.mul_le_mul_right _ (by omega)
        obtain ⟨cur, hcur⟩ : ∃ cur, (flatE encTdr D ++ rest).toArray = cur := ⟨_, rfl⟩
        have hcsz : cur.size = cap * 4 := by rw [← hcur]; simpa using hrl
        rw [hcur] at hgw
        obtain ⟨W2, hW2⟩ : ∃ W2, W2 = wr.setRow g (cur.toList.take (i * 4) ++ (Builtin.zeroCells Z.cells (j - i)).toList ++ cur.toList.drop (i * 4 + (Builtin.zeroCells Z.cells (j - i)).toList.length)).toArray := ⟨_, rfl⟩
        have hcl : ∀ ty dc, (Builtin.clear_ #[25] ty #[.slice (some ⟨g, i * 4, none⟩) (j - i) dc]).run Try.prog wr = .ok (.tuple #[]) W2 := fun ty dc => by
          rw [hW2]
          exact run_clear_rowZ wr 25 28 ty i1 Z g (i * 4) (j - i) dc cur 28 Try.underlying25 hi1 (by rw [hz0, hZ]) hgw (by rw [hzl, hcsz]; exact hfit) hzo
        skip
        have hI0 := hI.fin (by have := HLN.out; omega)
        have hDn := hr.2
        have hiD := hI.ilt
        have hrow2 : RowZ 28 4 encTdr base g i cap (D.take i) W2 := RowZ.cut encTdr_len (Z := (Builtin.zeroCells Z.cells (j - i)).toList) hr (by omega) hzl (fun c hc => by
          rw [hgw] at hc; cases hc; rw [hW2]; exact heap_setRow hgw) hn0
        have hiM : M.length = i := by rw [← HM.out, ← hI0, List.length_take]; omega
        rw [hI0, HM.out] at hrow2
        have hg2 : w.grownBy W2 (some g) := by rw [hW2]; exact ztrans hg (grownBy_setRow _ _ _)
        have HC2 := Lib.hid hcl
        have HR2 := Lib.hid hrow2
        have HG2 := Lib.hid hg2
        have HIM := Lib.hid hiM
        have hil : i < j := by omega
        have hci : ¬ (cap = i) := by omega
        have hij2 : i ≤ j := by omega
        have hic : i ≤ cap := by omega
        clear hcl hrow2 hg2 hiM hW2 hgw hcur hcsz hfit hzo hzl hZ hI0 hI hr hg hz0 hz1 hz2 hi1 hxl hrl hDn hiD hij
        go_wp2_with (refine wpList_clear_runZ _ rfl (.tmp 38) 25 rfl (.slice (some ⟨g, i * 4, none⟩) (j - i) (cap - i)) rfl (HC2.out 0 (cap - i)) ?_)
        go_ret
        exact ⟨by rw [HIM.out]; rfl, by rw [HIM.out]; exact HR2.out, HG2.out⟩
  · rw [if_neg hlt] at H
    have HH := Lib.hid H
    have hML : M = L := by rw [← HM.out]; exact dl_none (by have := HLN.out; have := HQ.out; omega)
    subst hML
    rw [HLN.out]
    clear H
    go_enter Try.func17, Try.ntmps17
    go_wp2_with fail
    refine HH.out.mono ?_
    rintro e w1 ⟨rfl, hb1⟩
    go_wp2
    go_ret
    exact ⟨rfl, HR.out.below hb1, zbelow hb1 _⟩
/-- any row of the call's own, nil or not -/
theorem dlfTdr_any (F : Nat) (cb : Array Value) (p : Tdr → Bool) (Q : Tdr → Prop) (base : Nat) (v : Value) (L : List Tdr) (w : World)
    (eg : ∀ args w, (callFunc F args).run Try.prog w = .ok (.enter F args) w) (hp : ProTdr F cb v.ownBlock p Q w) (hQ : ∀ x ∈ L, Q x) (hown : w.ownsRow base 28 4 v L.length (flatE encTdr L)) (hn : L.length ≤ 1000000) :
    Calls Try.prog 17 #[v, .func (.func F) #[] cb] w fun e w' => ∃ v', e = .returned v' ∧ w'.ownsRow base 28 4 v' (L.filter fun x => !p x).length (flatE encTdr (L.filter fun x => !p x)) ∧ w.grownBy w' v.ownBlock := by
  rcases Nat.eq_zero_or_pos L.length with h0 | h0
  · obtain rfl : L = [] := List.eq_nil_of_length_eq_zero h0
    have H := ixfTdr_any (fun _ => True) F cb p Q _ [] w eg hp.prd hQ (Sl.own encTdr_len hown rfl (fun _ _ => trivial)) (by simp)
    obtain ⟨ao, c, rfl⟩ := own_sl hown
    have HH := Lib.hid H
    have HO := Lib.hid hown
    clear H hp hQ hown
    go_enter Try.func17, Try.ntmps17
    go_wp2_with fail
    refine HH.out.mono ?_
    rintro e w1 ⟨rfl, hb1⟩
    go_wp2
    go_ret
    exact ⟨_, rfl, ownsRow_belowZ HO.out hb1, zbelow hb1 _⟩
  · obtain ⟨g, cap, rest, rfl, hbg, hg, hnc, hcm, hxl, hrl⟩ := own_whole hown h0
    refine (dlrTdr_any F cb p Q base g L.length cap L w eg hp hQ ⟨hown, rfl⟩ hn h0).mono ?_
    rintro e w' ⟨rfl, hr, hgr⟩
    exact ⟨_, rfl, hr.1, hgr⟩
end Go.Proofs.Ytkdbdncboljfhaa
