/- Striking elements of a list in place. No program in sight. slices.IndexFunc, ContainsFunc, DeleteFunc at [](int), with a function value that may make memory. Printed by wip/gen/fnx.py. slices.IndexFunc, ContainsFunc, DeleteFunc at [](treasury/api.Security), with a function value that may make memory. Printed by wip/gen/fnx.py. slices.IndexFunc, ContainsFunc, DeleteFunc at [](treasury/api.Strip), with a function value that may make memory. Printed by wip/gen/fnx.py. -/
import Derived.Test.YthhoaefadfeknaaGreatZSortR
import Derived.Test.YthhoaefadfeknaaGreatZRegP
import Derived.BigQuiet
import Derived.ChangeAlike
import Derived.Shelf.Abstract
import Derived.RegionTactic
namespace Go.Proofs.YthhoaefadfeknaaGreat
open Go.RowKit
set_option linter.unusedVariables false
/-- what lies in the row when j elements have been looked at and i kept -/
structure DlI {α : Type} (L : List α) (p : α → Bool) (D : List α) (i j : Nat) : Prop where
  len : D.length = L.length
  lo : D.take i = (L.take j).filter fun x => !p x
  hi : D.drop j = L.drop j
  lt : i < j
  le : j ≤ L.length
theorem own_sl {w : World} {base : Nat} {e : TypeId} {z : Nat} {v : Value} {n : Nat} {xs : List Value} (h : w.ownsRow base e z v n xs) : ∃ ao c, v = .slice ao n c := by
  rcases h.2 with ⟨rfl, rfl⟩ | ⟨g, cap, cur, rfl, _⟩
  · exact ⟨_, _, rfl⟩
  · exact ⟨_, _, rfl⟩
section
variable {α : Type} {L D : List α} {p : α → Bool} {i j : Nat}
theorem dl_find : ∀ {L : List α} {k : Nat}, L.findIdx p = k → k < L.length → (L.take (k + 1)).filter (fun x => !p x) = L.take k
  | [], k, _, h => by simp at h
  | x :: L, k, h, hk => by
    rw [List.findIdx_cons] at h
    cases hx : p x with
    | true => rw [hx] at h; simp at h; subst h; simp [hx]
    | false =>
      rw [hx] at h
      simp only [cond_false] at h
      subst h
      simp only [List.length_cons] at hk
      have := dl_find (L := L) rfl (by omega)
      simp only [List.take_succ_cons, List.filter_cons, hx, Bool.not_false, if_true]
      rw [this]
theorem dl_none : ∀ {L : List α}, L.length ≤ L.findIdx p → L.filter (fun x => !p x) = L
  | [], _ => rfl
  | x :: L, h => by
    rw [List.findIdx_cons] at h
    cases hx : p x with
    | true => rw [hx] at h; simp at h
    | false =>
      rw [hx] at h
      simp only [cond_false, List.length_cons] at h
      have := dl_none (L := L) (by omega)
      simp [hx, this]
theorem DlI.start {k : Nat} (h : L.findIdx p = k) (hk : k < L.length) : DlI L p L k (k + 1) := ⟨rfl, (dl_find h hk).symm, rfl, by omega, by omega⟩
theorem DlI.get (h : DlI L p D i j) : D[j]? = L[j]? := by
  have := h.hi
  have e1 : (D.drop j)[0]? = (L.drop j)[0]? := by rw [this]
  simpa using e1
theorem DlI.skip (h : DlI L p D i j) {x : α} (hx : L[j]? = some x) (hp : p x = true) : DlI L p D i (j + 1) := by
  have hj := (List.getElem?_eq_some_iff.1 hx).1
  refine ⟨h.len, ?_, ?_, by have := h.lt; omega, by omega⟩
  · rw [take_snocZ hx, List.filter_append, ← h.lo]; simp [hp]
  · have := congrArg (List.drop 1) h.hi
    simpa [List.drop_drop] using this
theorem DlI.keep (h : DlI L p D i j) {x : α} (hx : L[j]? = some x) (hp : p x = false) : DlI L p (D.set i x) (i + 1) (j + 1) := by
  have hj := (List.getElem?_eq_some_iff.1 hx).1
  have hl := h.len
  have hlt := h.lt
  refine ⟨by simpa using h.len, ?_, ?_, by omega, by omega⟩
  · have e : (D.set i x)[i]? = some x := by rw [List.getElem?_set]; simp; omega
    rw [take_snocZ hx, List.filter_append, ← h.lo, take_snocZ e, List.take_set_of_le (Nat.le_refl _)]; simp [hp]
  · have := congrArg (List.drop 1) h.hi
    rw [List.drop_set_of_lt (by omega)]
    simpa [List.drop_drop] using this
theorem zero_one {Z : Array Value} (h : ∀ u ∈ Z.toList, u.oneCell' = true) (n : Nat) : ∀ u ∈ (Builtin.zeroCells Z n).toList, u.oneCell' = true := by
  intro u hu
  simp only [Builtin.zeroCells, Array.toList_map, List.mem_map] at hu
  obtain ⟨i, hi, rfl⟩ := hu
  have hlt : i < n * Z.size := by simpa using hi
  have hz : 0 < Z.size := by rcases Nat.eq_zero_or_pos Z.size with h0 | h0; (· rw [h0] at hlt; omega); · exact h0
  have hm : i % Z.size < Z.size := Nat.mod_lt _ hz
  rw [getElem!_pos Z _ hm]
  exact h _ (by simp)
theorem DlI.fin (h : DlI L p D i j) (hj : L.length ≤ j) : D.take i = L.filter fun x => !p x := by rw [h.lo, take_all hj]
theorem DlI.ilt (h : DlI L p D i j) : i < D.length := by have := h.len; have := h.lt; have := h.le; omega
/-- the row cut and its tail cleared -/
theorem RowZ.cut {T : TypeId} {z : Nat} {enc : α → List Value} (hz : ∀ a, (enc a).length = z) {base g n cap : Nat} {w W : World} {Z : List Value} (h : RowZ T z enc base g n cap D w) (hi : i ≤ n) (hZ : Z.length = (n - i) * z)
    (hW : ∀ cur, w.heap[g]? = some (.cells cur T (0, 0)) → W.heap[g]? = some (.cells (cur.toList.take (i * z) ++ Z ++ cur.toList.drop (i * z + Z.length)).toArray T (0, 0))) (hn : 0 < n) : RowZ T z enc base g i cap (D.take i) W := by
  obtain ⟨g', cap', rest, he, hbg, hg, hnc, hcm, hxl, hrl⟩ := own_whole h.1 hn
  cases he
  have hdl := h.2
  have hl : (D.take i).length = i := by rw [List.length_take]; omega
  have hf : flatE enc D = flatE enc (D.take i) ++ flatE enc (D.drop i) := by rw [← flatE_append, List.take_append_drop]
  have hfl : (flatE enc (D.take i)).length = i * z := by rw [flatE_length hz, hl]
  refine ⟨?_, hl⟩
  have hq := hW _ hg
  have e : (flatE enc D ++ rest).toArray.toList.take (i * z) = flatE enc (D.take i) := by
    simp only [hf, List.append_assoc]
    rw [← hfl]; exact List.take_left
  rw [e, List.append_assoc] at hq
  refine own_mk hbg hq (by omega) hcm hfl ?_
  simp only [List.length_append, hfl, hZ, List.length_drop, List.length_append] at hrl ⊢
  rw [hxl] at hrl
  have : (n - i) * z + i * z = n * z := by rw [← Nat.add_mul, show n - i + i = n by omega]
  rw [hxl]
  omega
end
end Go.Proofs.YthhoaefadfeknaaGreat
namespace Go.Proofs.YthhoaefadfeknaaGreat
open Go.RowKit
set_option linter.unusedVariables false
set_option linter.unusedSimpArgs false
def uInt (x : Int) : Value := .int .i64 x
/-- the function F, bound to cb, gives p at the elements with Q in every world above w; it may make memory -/
def PrdInt (F : Nat) (cb : Array Value) (p : Int → Bool) (Q : Int → Prop) (w : World) : Prop :=
  ∀ W, Below w.heap.size w W → ∀ x, Q x → Calls Tryz.prog F (#[uInt x] ++ cb) W fun e w' => e = .returned (.bool (p x)) ∧ Below W.heap.size W w'
theorem PrdInt.on {F : Nat} {cb : Array Value} {p : Int → Bool} {Q : Int → Prop} {w w' : World} (h : PrdInt F cb p Q w) (hb : Below w.heap.size w w') : PrdInt F cb p Q w' := fun W hW x hx => h W (bup hb hW) x hx
set_option maxHeartbeats 2000000 in
theorem ixfInt_any (P : Nat → Prop) (F : Nat) (cb : Array Value) (p : Int → Bool) (Q : Int → Prop) (v : Value) (L : List Int) (w : World)
    (eg : ∀ args w, (callFunc F args).run Tryz.prog w = .ok (.enter F args) w) (hp : PrdInt F cb p Q w) (hQ : ∀ x ∈ L, Q x) (hS : Sl 1 encI P w v L) (hlen : L.length ≤ 1000000) :
    Calls Tryz.prog 156 #[v, .func (.func F) #[] cb] w fun e w' => e = .returned (.int .i64 (if L.findIdx p < L.length then (L.findIdx p : Int) else -1)) ∧ Below w.heap.size w w' := by
  obtain ⟨ao, n, c, rfl, hn, hnc, hcm⟩ := hS.shape
  have hn1 : n ≤ 1000000 := by omega
  rw [hn]
  obtain ⟨q, hq⟩ : ∃ q, L.findIdx p = q := ⟨_, rfl⟩
  rw [hq]
  obtain ⟨r, hr⟩ : ∃ r, (if q < n then (q : Int) else -1) = r := ⟨_, rfl⟩
  rw [hr]
  have HC := Lib.hid hp
  have HX := Lib.hid hQ
  have HS := Lib.hid hS
  have HN := Lib.hid hn
  have HP := Lib.hid hq
  have HR := Lib.hid hr
  clear hS hn hq hlen hr hp hQ
  go_enter Tryz.func156, Tryz.ntmps156
  go_wp2
  go_loopw [8] (fun iv wr => ∃ k : Nat, k ≤ n ∧ iv = .int .i64 k ∧ q = k + (L.drop k).findIdx p ∧ Below w.heap.size w wr) (fun iv _ => n - (intOf iv).toNat)
  case atStart => exact ⟨0, by omega, rfl, by rw [List.drop_zero, Nat.zero_add]; exact HP.out.symm, brefl⟩
  case round =>
    obtain ⟨k, hk, rfl, hpk, hbr⟩ := hrel
    have zr := hbr.size
    by_cases hlt : k < n
    · obtain ⟨b, off, vx, rfl, -, hb', hL, k0⟩ := (HS.out.below hbr).int hlt
      rw [drop_cons hL, List.findIdx_cons] at hpk
      have hc := HC.out wr hbr vx (HX.out _ (List.mem_of_getElem? hL))
      obtain ⟨t, ht⟩ : ∃ t, p vx = t := ⟨_, rfl⟩
      simp only [ht, uInt] at hc
      rw [ht] at hpk
      have HCC := Lib.hid hc
      have HBR := Lib.hid hbr
      clear hL ht hc hbr
      cases t with
      | true =>
        have hfin := Lib.hid (show (k : Int) = r by simp at hpk; rw [← HR.out, if_pos (by omega)]; omega)
        clear hpk
        go_wp2_with fail
        refine HCC.out.mono ?_
        rintro e w' ⟨rfl, hb⟩
        go_wp2
        go_ret
        exact ⟨ret_int hfin.out, bup HBR.out hb⟩
      | false =>
        have HPK := Lib.hid (show q = (k + 1) + (L.drop (k + 1)).findIdx p by simp at hpk; omega)
        clear hpk
        go_wp2_with fail
        refine HCC.out.mono ?_
        rintro e w' ⟨rfl, hb⟩
        go_wp2
        go_roundw
        case rel => exact ⟨k + 1, by omega, by go_num, HPK.out, bup HBR.out hb⟩
        case measure => simp [intOf]; omega
    · rw [drop_all (by have := HN.out; omega)] at hpk
      have hfin := Lib.hid (show (-1 : Int) = r by simp at hpk; rw [← HR.out, if_neg (by omega)])
      clear hpk
      go_wp2
      go_ret
      exact ⟨ret_int hfin.out, hbr⟩
theorem idwInt_any (p : Int → Bool) : ∀ L : List Int, L.any p = decide (0 ≤ (if L.findIdx p < L.length then (L.findIdx p : Int) else -1))
  | [] => by simp
  | x :: L => by
    have ih := idwInt_any p L
    rw [List.findIdx_cons, List.any_cons]
    cases p x
    · simp only [Bool.false_or, cond_false, List.length_cons, ih, decide_eq_decide]
      split <;> split <;> omega
    · simp
theorem cnfInt_any (P : Nat → Prop) (F : Nat) (cb : Array Value) (p : Int → Bool) (Q : Int → Prop) (v : Value) (L : List Int) (w : World)
    (eg : ∀ args w, (callFunc F args).run Tryz.prog w = .ok (.enter F args) w) (hp : PrdInt F cb p Q w) (hQ : ∀ x ∈ L, Q x) (hS : Sl 1 encI P w v L) (hlen : L.length ≤ 1000000) :
    Calls Tryz.prog 89 #[v, .func (.func F) #[] cb] w fun e w' => e = .returned (.bool (L.any p)) ∧ Below w.heap.size w w' := by
  have H := ixfInt_any P F cb p Q v L w eg hp hQ hS hlen
  rw [idwInt_any]
  obtain ⟨r, hr⟩ : ∃ r, (if L.findIdx p < L.length then (L.findIdx p : Int) else -1) = r := ⟨_, rfl⟩
  rw [hr] at H ⊢
  obtain ⟨ao, n, c, rfl, -, -, -⟩ := hS.shape
  have HH := Lib.hid H
  clear H hr hp hQ hS hlen
  go_enter Tryz.func89, Tryz.ntmps89
  go_wp2_with fail
  refine HH.out.mono ?_
  rintro e w1 ⟨rfl, hb⟩
  go_wp2
  go_ret
  exact ⟨ret_bool (by first | rfl | simp), hb⟩
/-- the function F, bound to cb, gives p at the elements with Q wherever block g alone has turned; it may make memory -/
def ProInt (F : Nat) (cb : Array Value) (g : Option Nat) (p : Int → Bool) (Q : Int → Prop) (w : World) : Prop :=
  ∀ W, w.grownBy W g → ∀ x, Q x → Calls Tryz.prog F (#[uInt x] ++ cb) W fun e w' => e = .returned (.bool (p x)) ∧ Below W.heap.size W w'
theorem ProInt.on {F : Nat} {cb : Array Value} {g : Option Nat} {p : Int → Bool} {Q : Int → Prop} {w w' : World} (h : ProInt F cb g p Q w) (hg : w.grownBy w' g) : ProInt F cb g p Q w' := fun W hW x hx => h W (ztrans hg hW) x hx
theorem ProInt.prd {F : Nat} {cb : Array Value} {g : Option Nat} {p : Int → Bool} {Q : Int → Prop} {w : World} (h : ProInt F cb g p Q w) : PrdInt F cb p Q w := fun W hW x hx => h W (zbelow hW _) x hx
set_option maxHeartbeats 8000000 in
set_option maxRecDepth 100000 in
theorem dlrInt_any (F : Nat) (cb : Array Value) (p : Int → Bool) (Q : Int → Prop) (base g n cap : Nat) (L : List Int) (w : World)
    (eg : ∀ args w, (callFunc F args).run Tryz.prog w = .ok (.enter F args) w) (hp : ProInt F cb (some g) p Q w) (hQ : ∀ x ∈ L, Q x) (hrow : RowZ 3 1 encI base g n cap L w) (hn : n ≤ 1000000) (hn0 : 0 < n) :
    Calls Tryz.prog 198 #[.slice (some ⟨g, 0, none⟩) n cap, .func (.func F) #[] cb] w fun e w' => e = .returned (.slice (some ⟨g, 0, none⟩) (L.filter fun x => !p x).length cap) ∧ RowZ 3 1 encI base g (L.filter fun x => !p x).length cap (L.filter fun x => !p x) w' ∧ w.grownBy w' (some g) := by
  have hln := hrow.2
  obtain ⟨g', cap', rest, he, hbg, hg0, hnc, hcm, hxl, hrl⟩ := own_whole hrow.1 hn0
  cases he
  have H := ixfInt_any (fun _ => True) F cb p Q _ L w eg hp.prd hQ (Sl.own encI_len hrow.1 hln (fun _ _ => trivial)) (by omega)
  obtain ⟨M, hM⟩ : ∃ M, L.filter (fun x => !p x) = M := ⟨_, rfl⟩
  obtain ⟨q, hq⟩ : ∃ q, L.findIdx p = q := ⟨_, rfl⟩
  rw [hq, hln] at H
  rw [hM]
  have HC := Lib.hid hp
  have HX := Lib.hid hQ
  have HM := Lib.hid hM
  have HQ := Lib.hid hq
  have HR := Lib.hid hrow
  have HLN := Lib.hid hln
  have hcm' := hcm
  unfold maxLen at hcm
  clear hp hQ hM hq hrow hln hxl hrl hg0
  by_cases hlt : q < n
  · rw [if_pos hlt] at H
    have HH := Lib.hid H
    clear H
    have hqz : ((q : Int) == -1) = false := by first | (simp; done) | (simp; omega)
    go_enter Tryz.func198, Tryz.ntmps198
    go_wp2_with fail
    refine HH.out.mono ?_
    rintro e w1 ⟨rfl, hb1⟩
    have HB1 := Lib.hid hb1
    clear hb1
    go_wp2
    go_loopw [5, 6] (fun iv jv wr => ∃ (i j : Nat) (D : List Int), iv = .int .i64 i ∧ jv = .int .i64 j ∧ j ≤ n ∧ i < j ∧ DlI L p D i j ∧ RowZ 3 1 encI base g n cap D wr ∧ w.grownBy wr (some g)) (fun _ jv _ => n - (intOf jv).toNat)
    case atStart => exact ⟨q, q + 1, L, rfl, by go_num, by omega, by omega, DlI.start HQ.out (by rw [HLN.out]; exact hlt), HR.out.below HB1.out, zbelow HB1.out _⟩
    case round =>
      obtain ⟨i, j, D, rfl, rfl, hjn, hij, hI, hr, hg⟩ := hrel
      by_cases hj : j < n
      · obtain ⟨x, hx⟩ : ∃ x, L[j]? = some x := ⟨_, List.getElem?_eq_getElem (by have := HLN.out; omega)⟩
        have hDx : D[j]? = some x := hI.get.trans hx
        have hc := fun W (hW : Below wr.heap.size wr W) => HC.out W (ztrans hg (zbelow hW _)) x (HX.out x (List.mem_of_getElem? hx))
        obtain ⟨t, ht⟩ : ∃ t, p x = t := ⟨_, rfl⟩
        simp only [ht, uInt] at hc
        have hiD := hI.ilt
        have hDn := hr.2
        have HI := Lib.hid hI
        have HRW := Lib.hid hr
        have HG := Lib.hid hg
        have HXX := Lib.hid hx
        have HT := Lib.hid ht
        have HCC := Lib.hid hc
        have c0 := HRW.out.cell encI_len (i := 0) hDx rfl
        simp only [Nat.mul_one, Nat.add_zero] at c0
        have hjz : (j : Int) < (n : Int) := by omega
        clear hc hI hr hg hx ht hDx
        cases t with
        | true =>
          go_wp2_with fail
          refine (HCC.out _ brefl).mono ?_
          rintro e w2 ⟨rfl, hb2⟩
          have HB2 := Lib.hid (bup brefl hb2)
          clear hb2
          go_wp2
          go_roundw
          case rel => exact ⟨i, j + 1, D, rfl, by go_num, by omega, by omega, HI.out.skip HXX.out HT.out, HRW.out.below HB2.out, ztrans HG.out (zbelow HB2.out _)⟩
          case measure => simp [intOf]; omega
        | false =>
          obtain ⟨y, hy⟩ : ∃ y, D[i]? = some y := ⟨_, List.getElem?_eq_getElem (by omega)⟩
          have HY := Lib.hid hy
          clear hy
          go_wp2_with fail
          refine (HCC.out _ brefl).mono ?_
          rintro e w2 ⟨rfl, hb2⟩
          have HB2 := Lib.hid (bup brefl hb2)
          skip
          have HRW2 := Lib.hid (HRW.out.below HB2.out)
          have d0 := HRW2.out.cell encI_len (i := 0) HY.out rfl
          simp only [Nat.mul_one, Nat.add_zero] at d0
          have fr := fun o => HRW2.out.fro o
          have iz : (i : Int) < (n : Int) := by omega
          clear hb2
          go_wp2
          go_roundw
          case rel =>
            have hs := HRW2.out.set encI_len (j := i) (by omega) x
            simp only [Nat.mul_one] at hs
            exact ⟨i + 1, j + 1, D.set i x, by go_num, by go_num, by omega, by omega, HI.out.keep HXX.out HT.out, hs.1, ztrans HG.out (ztrans (zbelow HB2.out _) hs.2)⟩
          case measure => simp [intOf]; omega
      · obtain rfl : j = n := by omega
        obtain ⟨i1, hi1, hz0, hz1, hz2⟩ := info_parts infoInt
        obtain ⟨g', cap', rest, he, -, hgw, -, -, hxl, hrl⟩ := own_whole hr.1 hn0
        cases he
        obtain ⟨Z, hZ⟩ : ∃ Z : Value, Z = .int .i64 0 := ⟨_, rfl⟩
        have hzl : (Builtin.zeroCells Z.cells (j - i)).toList.length = (j - i) * 1 := by rw [Array.length_toList, size_zeroCells, hZ]; rfl
        have hzo : ∀ u ∈ (Builtin.zeroCells Z.cells (j - i)).toList, u.oneCell' = true := zero_one (by
          rw [hZ]; intro u hu
          simp only [Value.cells, List.mem_cons, List.not_mem_nil, or_false] at hu
          rcases hu with rfl <;> rfl) _
        have hfit : i * 1 + (j - i) * 1 ≤ cap * 1 := by rw [← Nat.add_mul]; exact Nat.mul_le_mul_right _ (by omega)
        obtain ⟨cur, hcur⟩ : ∃ cur, (flatE encI D ++ rest).toArray = cur := ⟨_, rfl⟩
        have hcsz : cur.size = cap * 1 := by rw [← hcur]; simpa using hrl
        rw [hcur] at hgw
        obtain ⟨W2, hW2⟩ : ∃ W2, W2 = wr.setRow g (cur.toList.take (i * 1) ++ (Builtin.zeroCells Z.cells (j - i)).toList ++ cur.toList.drop (i * 1 + (Builtin.zeroCells Z.cells (j - i)).toList.length)).toArray := ⟨_, rfl⟩
        have hcl : ∀ ty dc, (Builtin.clear_ #[22] ty #[.slice (some ⟨g, i * 1, none⟩) (j - i) dc]).run Tryz.prog wr = .ok (.tuple #[]) W2 := fun ty dc => by
          rw [hW2]
          exact run_clear_rowZ wr 22 3 ty i1 Z g (i * 1) (j - i) dc cur 3 Tryz.underlying22 hi1 (by rw [hz0, hZ]) hgw (by rw [hzl, hcsz]; exact hfit) hzo
        simp only [Nat.mul_one] at hcl
        have hI0 := hI.fin (by have := HLN.out; omega)
        have hDn := hr.2
        have hiD := hI.ilt
        have hrow2 : RowZ 3 1 encI base g i cap (D.take i) W2 := RowZ.cut encI_len (Z := (Builtin.zeroCells Z.cells (j - i)).toList) hr (by omega) hzl (fun c hc => by
          rw [hgw] at hc; cases hc; rw [hW2]; exact heap_setRow hgw) hn0
        have hiM : M.length = i := by rw [← HM.out, ← hI0, List.length_take]; omega
        rw [hI0, HM.out] at hrow2
        have hg2 : w.grownBy W2 (some g) := by rw [hW2]; exact ztrans hg (grownBy_setRow _ _ _)
        have HC2 := Lib.hid hcl
        have HR2 := Lib.hid hrow2
        have HG2 := Lib.hid hg2
        have HIM := Lib.hid hiM
        have hil : i < j := by omega
        have hci : ¬ (cap = i) := by omega
        have hij2 : i ≤ j := by omega
        have hic : i ≤ cap := by omega
        clear hcl hrow2 hg2 hiM hW2 hgw hcur hcsz hfit hzo hzl hZ hI0 hI hr hg hz0 hz1 hz2 hi1 hxl hrl hDn hiD hij
        go_wp2_with (refine wpList_clear_runZ _ rfl (.tmp 38) 22 rfl (.slice (some ⟨g, i, none⟩) (j - i) (cap - i)) rfl (HC2.out 0 (cap - i)) ?_)
        go_ret
        exact ⟨by rw [HIM.out]; rfl, by rw [HIM.out]; exact HR2.out, HG2.out⟩
  · rw [if_neg hlt] at H
    have HH := Lib.hid H
    have hML : M = L := by rw [← HM.out]; exact dl_none (by have := HLN.out; have := HQ.out; omega)
    subst hML
    rw [HLN.out]
    clear H
    go_enter Tryz.func198, Tryz.ntmps198
    go_wp2_with fail
    refine HH.out.mono ?_
    rintro e w1 ⟨rfl, hb1⟩
    go_wp2
    go_ret
    exact ⟨rfl, HR.out.below hb1, zbelow hb1 _⟩
/-- any row of the call's own, nil or not -/
theorem dlfInt_any (F : Nat) (cb : Array Value) (p : Int → Bool) (Q : Int → Prop) (base : Nat) (v : Value) (L : List Int) (w : World)
    (eg : ∀ args w, (callFunc F args).run Tryz.prog w = .ok (.enter F args) w) (hp : ProInt F cb v.ownBlock p Q w) (hQ : ∀ x ∈ L, Q x) (hown : w.ownsRow base 3 1 v L.length (flatE encI L)) (hn : L.length ≤ 1000000) :
    Calls Tryz.prog 198 #[v, .func (.func F) #[] cb] w fun e w' => ∃ v', e = .returned v' ∧ w'.ownsRow base 3 1 v' (L.filter fun x => !p x).length (flatE encI (L.filter fun x => !p x)) ∧ w.grownBy w' v.ownBlock := by
  rcases Nat.eq_zero_or_pos L.length with h0 | h0
  · obtain rfl : L = [] := List.eq_nil_of_length_eq_zero h0
    have H := ixfInt_any (fun _ => True) F cb p Q _ [] w eg hp.prd hQ (Sl.own encI_len hown rfl (fun _ _ => trivial)) (by simp)
    obtain ⟨ao, c, rfl⟩ := own_sl hown
    have HH := Lib.hid H
    have HO := Lib.hid hown
    clear H hp hQ hown
    go_enter Tryz.func198, Tryz.ntmps198
    go_wp2_with fail
    refine HH.out.mono ?_
    rintro e w1 ⟨rfl, hb1⟩
    go_wp2
    go_ret
    exact ⟨_, rfl, ownsRow_belowZ HO.out hb1, zbelow hb1 _⟩
  · obtain ⟨g, cap, rest, rfl, hbg, hg, hnc, hcm, hxl, hrl⟩ := own_whole hown h0
    refine (dlrInt_any F cb p Q base g L.length cap L w eg hp hQ ⟨hown, rfl⟩ hn h0).mono ?_
    rintro e w' ⟨rfl, hr, hgr⟩
    exact ⟨_, rfl, hr.1, hgr⟩
end Go.Proofs.YthhoaefadfeknaaGreat
namespace Go.Proofs.YthhoaefadfeknaaGreat
open Go.RowKit
set_option linter.unusedVariables false
set_option linter.unusedSimpArgs false
def uSec (x : Sec) : Value := .agg #[.int .i64 x.id, .int .i64 x.un, .int .i64 x.is, .int .i64 x.ma, .int .i64 x.ra, .int .i64 x.ev, .bool x.ix]
/-- the function F, bound to cb, gives p at the elements with Q in every world above w; it may make memory -/
def PrdSec (F : Nat) (cb : Array Value) (p : Sec → Bool) (Q : Sec → Prop) (w : World) : Prop :=
  ∀ W, Below w.heap.size w W → ∀ x, Q x → Calls Tryz.prog F (#[uSec x] ++ cb) W fun e w' => e = .returned (.bool (p x)) ∧ Below W.heap.size W w'
theorem PrdSec.on {F : Nat} {cb : Array Value} {p : Sec → Bool} {Q : Sec → Prop} {w w' : World} (h : PrdSec F cb p Q w) (hb : Below w.heap.size w w') : PrdSec F cb p Q w' := fun W hW x hx => h W (bup hb hW) x hx
set_option maxHeartbeats 2000000 in
theorem ixfSec_any (P : Nat → Prop) (F : Nat) (cb : Array Value) (p : Sec → Bool) (Q : Sec → Prop) (v : Value) (L : List Sec) (w : World)
    (eg : ∀ args w, (callFunc F args).run Tryz.prog w = .ok (.enter F args) w) (hp : PrdSec F cb p Q w) (hQ : ∀ x ∈ L, Q x) (hS : Sl 7 encSec P w v L) (hlen : L.length ≤ 1000000) :
    Calls Tryz.prog 170 #[v, .func (.func F) #[] cb] w fun e w' => e = .returned (.int .i64 (if L.findIdx p < L.length then (L.findIdx p : Int) else -1)) ∧ Below w.heap.size w w' := by
  obtain ⟨ao, n, c, rfl, hn, hnc, hcm⟩ := hS.shape
  have hn1 : n ≤ 1000000 := by omega
  rw [hn]
  obtain ⟨q, hq⟩ : ∃ q, L.findIdx p = q := ⟨_, rfl⟩
  rw [hq]
  obtain ⟨r, hr⟩ : ∃ r, (if q < n then (q : Int) else -1) = r := ⟨_, rfl⟩
  rw [hr]
  have HC := Lib.hid hp
  have HX := Lib.hid hQ
  have HS := Lib.hid hS
  have HN := Lib.hid hn
  have HP := Lib.hid hq
  have HR := Lib.hid hr
  clear hS hn hq hlen hr hp hQ
  go_enter Tryz.func170, Tryz.ntmps170
  go_wp2
  go_loopw [8] (fun iv wr => ∃ k : Nat, k ≤ n ∧ iv = .int .i64 k ∧ q = k + (L.drop k).findIdx p ∧ Below w.heap.size w wr) (fun iv _ => n - (intOf iv).toNat)
  case atStart => exact ⟨0, by omega, rfl, by rw [List.drop_zero, Nat.zero_add]; exact HP.out.symm, brefl⟩
  case round =>
    obtain ⟨k, hk, rfl, hpk, hbr⟩ := hrel
    have zr := hbr.size
    by_cases hlt : k < n
    · obtain ⟨b, off, vid, vun, vis, vma, vra, vev, vix, rfl, -, hb', hL, k0, k1, k2, k3, k4, k5, k6⟩ := (HS.out.below hbr).sec hlt
      rw [drop_cons hL, List.findIdx_cons] at hpk
      have hc := HC.out wr hbr ⟨vid, vun, vis, vma, vra, vev, vix⟩ (HX.out _ (List.mem_of_getElem? hL))
      obtain ⟨t, ht⟩ : ∃ t, p ⟨vid, vun, vis, vma, vra, vev, vix⟩ = t := ⟨_, rfl⟩
      simp only [ht, uSec] at hc
      rw [ht] at hpk
      have HCC := Lib.hid hc
      have HBR := Lib.hid hbr
      clear hL ht hc hbr
      cases t with
      | true =>
        have hfin := Lib.hid (show (k : Int) = r by simp at hpk; rw [← HR.out, if_pos (by omega)]; omega)
        clear hpk
        go_wp2_with fail
        refine HCC.out.mono ?_
        rintro e w' ⟨rfl, hb⟩
        go_wp2
        go_ret
        exact ⟨ret_int hfin.out, bup HBR.out hb⟩
      | false =>
        have HPK := Lib.hid (show q = (k + 1) + (L.drop (k + 1)).findIdx p by simp at hpk; omega)
        clear hpk
        go_wp2_with fail
        refine HCC.out.mono ?_
        rintro e w' ⟨rfl, hb⟩
        go_wp2
        go_roundw
        case rel => exact ⟨k + 1, by omega, by go_num, HPK.out, bup HBR.out hb⟩
        case measure => simp [intOf]; omega
    · rw [drop_all (by have := HN.out; omega)] at hpk
      have hfin := Lib.hid (show (-1 : Int) = r by simp at hpk; rw [← HR.out, if_neg (by omega)])
      clear hpk
      go_wp2
      go_ret
      exact ⟨ret_int hfin.out, hbr⟩
theorem idwSec_any (p : Sec → Bool) : ∀ L : List Sec, L.any p = decide (0 ≤ (if L.findIdx p < L.length then (L.findIdx p : Int) else -1))
  | [] => by simp
  | x :: L => by
    have ih := idwSec_any p L
    rw [List.findIdx_cons, List.any_cons]
    cases p x
    · simp only [Bool.false_or, cond_false, List.length_cons, ih, decide_eq_decide]
      split <;> split <;> omega
    · simp
theorem cnfSec_any (P : Nat → Prop) (F : Nat) (cb : Array Value) (p : Sec → Bool) (Q : Sec → Prop) (v : Value) (L : List Sec) (w : World)
    (eg : ∀ args w, (callFunc F args).run Tryz.prog w = .ok (.enter F args) w) (hp : PrdSec F cb p Q w) (hQ : ∀ x ∈ L, Q x) (hS : Sl 7 encSec P w v L) (hlen : L.length ≤ 1000000) :
    Calls Tryz.prog 106 #[v, .func (.func F) #[] cb] w fun e w' => e = .returned (.bool (L.any p)) ∧ Below w.heap.size w w' := by
  have H := ixfSec_any P F cb p Q v L w eg hp hQ hS hlen
  rw [idwSec_any]
  obtain ⟨r, hr⟩ : ∃ r, (if L.findIdx p < L.length then (L.findIdx p : Int) else -1) = r := ⟨_, rfl⟩
  rw [hr] at H ⊢
  obtain ⟨ao, n, c, rfl, -, -, -⟩ := hS.shape
  have HH := Lib.hid H
  clear H hr hp hQ hS hlen
  go_enter Tryz.func106, Tryz.ntmps106
  go_wp2_with fail
  refine HH.out.mono ?_
  rintro e w1 ⟨rfl, hb⟩
  go_wp2
  go_ret
  exact ⟨ret_bool (by first | rfl | simp), hb⟩
end Go.Proofs.YthhoaefadfeknaaGreat
namespace Go.Proofs.YthhoaefadfeknaaGreat
open Go.RowKit
set_option linter.unusedVariables false
set_option linter.unusedSimpArgs false
def uStp (x : Stp) : Value := .agg #[.int .i64 x.s, .int .i64 x.d, .bool x.p, .int .i64 x.h, .int .i64 x.a]
/-- the function F, bound to cb, gives p at the elements with Q in every world above w; it may make memory -/
def PrdStp (F : Nat) (cb : Array Value) (p : Stp → Bool) (Q : Stp → Prop) (w : World) : Prop :=
  ∀ W, Below w.heap.size w W → ∀ x, Q x → Calls Tryz.prog F (#[uStp x] ++ cb) W fun e w' => e = .returned (.bool (p x)) ∧ Below W.heap.size W w'
theorem PrdStp.on {F : Nat} {cb : Array Value} {p : Stp → Bool} {Q : Stp → Prop} {w w' : World} (h : PrdStp F cb p Q w) (hb : Below w.heap.size w w') : PrdStp F cb p Q w' := fun W hW x hx => h W (bup hb hW) x hx
set_option maxHeartbeats 2000000 in
theorem ixfStp_any (P : Nat → Prop) (F : Nat) (cb : Array Value) (p : Stp → Bool) (Q : Stp → Prop) (v : Value) (L : List Stp) (w : World)
    (eg : ∀ args w, (callFunc F args).run Tryz.prog w = .ok (.enter F args) w) (hp : PrdStp F cb p Q w) (hQ : ∀ x ∈ L, Q x) (hS : Sl 5 encStp P w v L) (hlen : L.length ≤ 1000000) :
    Calls Tryz.prog 180 #[v, .func (.func F) #[] cb] w fun e w' => e = .returned (.int .i64 (if L.findIdx p < L.length then (L.findIdx p : Int) else -1)) ∧ Below w.heap.size w w' := by
  obtain ⟨ao, n, c, rfl, hn, hnc, hcm⟩ := hS.shape
  have hn1 : n ≤ 1000000 := by omega
  rw [hn]
  obtain ⟨q, hq⟩ : ∃ q, L.findIdx p = q := ⟨_, rfl⟩
  rw [hq]
  obtain ⟨r, hr⟩ : ∃ r, (if q < n then (q : Int) else -1) = r := ⟨_, rfl⟩
  rw [hr]
  have HC := Lib.hid hp
  have HX := Lib.hid hQ
  have HS := Lib.hid hS
  have HN := Lib.hid hn
  have HP := Lib.hid hq
  have HR := Lib.hid hr
  clear hS hn hq hlen hr hp hQ
  go_enter Tryz.func180, Tryz.ntmps180
  go_wp2
  go_loopw [8] (fun iv wr => ∃ k : Nat, k ≤ n ∧ iv = .int .i64 k ∧ q = k + (L.drop k).findIdx p ∧ Below w.heap.size w wr) (fun iv _ => n - (intOf iv).toNat)
  case atStart => exact ⟨0, by omega, rfl, by rw [List.drop_zero, Nat.zero_add]; exact HP.out.symm, brefl⟩
  case round =>
    obtain ⟨k, hk, rfl, hpk, hbr⟩ := hrel
    have zr := hbr.size
    by_cases hlt : k < n
    · obtain ⟨b, off, vs, vd, vp, vh, va, rfl, -, hb', hL, k0, k1, k2, k3, k4⟩ := (HS.out.below hbr).stp hlt
      rw [drop_cons hL, List.findIdx_cons] at hpk
      have hc := HC.out wr hbr ⟨vs, vd, vp, vh, va⟩ (HX.out _ (List.mem_of_getElem? hL))
      obtain ⟨t, ht⟩ : ∃ t, p ⟨vs, vd, vp, vh, va⟩ = t := ⟨_, rfl⟩
      simp only [ht, uStp] at hc
      rw [ht] at hpk
      have HCC := Lib.hid hc
      have HBR := Lib.hid hbr
      clear hL ht hc hbr
      cases t with
      | true =>
        have hfin := Lib.hid (show (k : Int) = r by simp at hpk; rw [← HR.out, if_pos (by omega)]; omega)
        clear hpk
        go_wp2_with fail
        refine HCC.out.mono ?_
        rintro e w' ⟨rfl, hb⟩
        go_wp2
        go_ret
        exact ⟨ret_int hfin.out, bup HBR.out hb⟩
      | false =>
        have HPK := Lib.hid (show q = (k + 1) + (L.drop (k + 1)).findIdx p by simp at hpk; omega)
        clear hpk
        go_wp2_with fail
        refine HCC.out.mono ?_
        rintro e w' ⟨rfl, hb⟩
        go_wp2
        go_roundw
        case rel => exact ⟨k + 1, by omega, by go_num, HPK.out, bup HBR.out hb⟩
        case measure => simp [intOf]; omega
    · rw [drop_all (by have := HN.out; omega)] at hpk
      have hfin := Lib.hid (show (-1 : Int) = r by simp at hpk; rw [← HR.out, if_neg (by omega)])
      clear hpk
      go_wp2
      go_ret
      exact ⟨ret_int hfin.out, hbr⟩
theorem idwStp_any (p : Stp → Bool) : ∀ L : List Stp, L.any p = decide (0 ≤ (if L.findIdx p < L.length then (L.findIdx p : Int) else -1))
  | [] => by simp
  | x :: L => by
    have ih := idwStp_any p L
    rw [List.findIdx_cons, List.any_cons]
    cases p x
    · simp only [Bool.false_or, cond_false, List.length_cons, ih, decide_eq_decide]
      split <;> split <;> omega
    · simp
theorem cnfStp_any (P : Nat → Prop) (F : Nat) (cb : Array Value) (p : Stp → Bool) (Q : Stp → Prop) (v : Value) (L : List Stp) (w : World)
    (eg : ∀ args w, (callFunc F args).run Tryz.prog w = .ok (.enter F args) w) (hp : PrdStp F cb p Q w) (hQ : ∀ x ∈ L, Q x) (hS : Sl 5 encStp P w v L) (hlen : L.length ≤ 1000000) :
    Calls Tryz.prog 119 #[v, .func (.func F) #[] cb] w fun e w' => e = .returned (.bool (L.any p)) ∧ Below w.heap.size w w' := by
  have H := ixfStp_any P F cb p Q v L w eg hp hQ hS hlen
  rw [idwStp_any]
  obtain ⟨r, hr⟩ : ∃ r, (if L.findIdx p < L.length then (L.findIdx p : Int) else -1) = r := ⟨_, rfl⟩
  rw [hr] at H ⊢
  obtain ⟨ao, n, c, rfl, -, -, -⟩ := hS.shape
  have HH := Lib.hid H
  clear H hr hp hQ hS hlen
  go_enter Tryz.func119, Tryz.ntmps119
  go_wp2_with fail
  refine HH.out.mono ?_
  rintro e w1 ⟨rfl, hb⟩
  go_wp2
  go_ret
  exact ⟨ret_bool (by first | rfl | simp), hb⟩
/-- the function F, bound to cb, gives p at the elements with Q wherever block g alone has turned; it may make memory -/
def ProStp (F : Nat) (cb : Array Value) (g : Option Nat) (p : Stp → Bool) (Q : Stp → Prop) (w : World) : Prop :=
  ∀ W, w.grownBy W g → ∀ x, Q x → Calls Tryz.prog F (#[uStp x] ++ cb) W fun e w' => e = .returned (.bool (p x)) ∧ Below W.heap.size W w'
theorem ProStp.on {F : Nat} {cb : Array Value} {g : Option Nat} {p : Stp → Bool} {Q : Stp → Prop} {w w' : World} (h : ProStp F cb g p Q w) (hg : w.grownBy w' g) : ProStp F cb g p Q w' := fun W hW x hx => h W (ztrans hg hW) x hx
theorem ProStp.prd {F : Nat} {cb : Array Value} {g : Option Nat} {p : Stp → Bool} {Q : Stp → Prop} {w : World} (h : ProStp F cb g p Q w) : PrdStp F cb p Q w := fun W hW x hx => h W (zbelow hW _) x hx
set_option maxHeartbeats 8000000 in
set_option maxRecDepth 100000 in
theorem dlrStp_any (F : Nat) (cb : Array Value) (p : Stp → Bool) (Q : Stp → Prop) (base g n cap : Nat) (L : List Stp) (w : World)
    (eg : ∀ args w, (callFunc F args).run Tryz.prog w = .ok (.enter F args) w) (hp : ProStp F cb (some g) p Q w) (hQ : ∀ x ∈ L, Q x) (hrow : RowZ 88 5 encStp base g n cap L w) (hn : n ≤ 1000000) (hn0 : 0 < n) :
    Calls Tryz.prog 142 #[.slice (some ⟨g, 0, none⟩) n cap, .func (.func F) #[] cb] w fun e w' => e = .returned (.slice (some ⟨g, 0, none⟩) (L.filter fun x => !p x).length cap) ∧ RowZ 88 5 encStp base g (L.filter fun x => !p x).length cap (L.filter fun x => !p x) w' ∧ w.grownBy w' (some g) := by
  have hln := hrow.2
  obtain ⟨g', cap', rest, he, hbg, hg0, hnc, hcm, hxl, hrl⟩ := own_whole hrow.1 hn0
  cases he
  have H := ixfStp_any (fun _ => True) F cb p Q _ L w eg hp.prd hQ (Sl.own encStp_len hrow.1 hln (fun _ _ => trivial)) (by omega)
  obtain ⟨M, hM⟩ : ∃ M, L.filter (fun x => !p x) = M := ⟨_, rfl⟩
  obtain ⟨q, hq⟩ : ∃ q, L.findIdx p = q := ⟨_, rfl⟩
  rw [hq, hln] at H
  rw [hM]
  have HC := Lib.hid hp
  have HX := Lib.hid hQ
  have HM := Lib.hid hM
  have HQ := Lib.hid hq
  have HR := Lib.hid hrow
  have HLN := Lib.hid hln
  have hcm' := hcm
  unfold maxLen at hcm
  clear hp hQ hM hq hrow hln hxl hrl hg0
  by_cases hlt : q < n
  · rw [if_pos hlt] at H
    have HH := Lib.hid H
    clear H
    have hqz : ((q : Int) == -1) = false := by first | (simp; done) | (simp; omega)
    go_enter Tryz.func142, Tryz.ntmps142
    go_wp2_with fail
    refine HH.out.mono ?_
    rintro e w1 ⟨rfl, hb1⟩
    have HB1 := Lib.hid hb1
    clear hb1
    go_wp2
    go_loopw [5, 6] (fun iv jv wr => ∃ (i j : Nat) (D : List Stp), iv = .int .i64 i ∧ jv = .int .i64 j ∧ j ≤ n ∧ i < j ∧ DlI L p D i j ∧ RowZ 88 5 encStp base g n cap D wr ∧ w.grownBy wr (some g)) (fun _ jv _ => n - (intOf jv).toNat)
    case atStart => exact ⟨q, q + 1, L, rfl, by go_num, by omega, by omega, DlI.start HQ.out (by rw [HLN.out]; exact hlt), HR.out.below HB1.out, zbelow HB1.out _⟩
    case round =>
      obtain ⟨i, j, D, rfl, rfl, hjn, hij, hI, hr, hg⟩ := hrel
      by_cases hj : j < n
      · obtain ⟨x, hx⟩ : ∃ x, L[j]? = some x := ⟨_, List.getElem?_eq_getElem (by have := HLN.out; omega)⟩
        have hDx : D[j]? = some x := hI.get.trans hx
        have hc := fun W (hW : Below wr.heap.size wr W) => HC.out W (ztrans hg (zbelow hW _)) x (HX.out x (List.mem_of_getElem? hx))
        obtain ⟨t, ht⟩ : ∃ t, p x = t := ⟨_, rfl⟩
        simp only [ht, uStp] at hc
        have hiD := hI.ilt
        have hDn := hr.2
        have HI := Lib.hid hI
        have HRW := Lib.hid hr
        have HG := Lib.hid hg
        have HXX := Lib.hid hx
        have HT := Lib.hid ht
        have HCC := Lib.hid hc
        have c0 := HRW.out.cell encStp_len (i := 0) hDx rfl
        have c1 := HRW.out.cell encStp_len (i := 1) hDx rfl
        have c2 := HRW.out.cell encStp_len (i := 2) hDx rfl
        have c3 := HRW.out.cell encStp_len (i := 3) hDx rfl
        have c4 := HRW.out.cell encStp_len (i := 4) hDx rfl
        simp only [Nat.add_zero] at c0
        have hjz : (j : Int) < (n : Int) := by omega
        clear hc hI hr hg hx ht hDx
        cases t with
        | true =>
          go_wp2_with fail
          refine (HCC.out _ (bal brefl _)).mono ?_
          rintro e w2 ⟨rfl, hb2⟩
          have HB2 := Lib.hid (bup (bal brefl _) hb2)
          clear hb2
          go_wp2
          go_roundw
          case rel => exact ⟨i, j + 1, D, rfl, by go_num, by omega, by omega, HI.out.skip HXX.out HT.out, HRW.out.below HB2.out, ztrans HG.out (zbelow HB2.out _)⟩
          case measure => simp [intOf]; omega
        | false =>
          obtain ⟨y, hy⟩ : ∃ y, D[i]? = some y := ⟨_, List.getElem?_eq_getElem (by omega)⟩
          have HY := Lib.hid hy
          clear hy
          go_wp2_with fail
          refine (HCC.out _ (bal brefl _)).mono ?_
          rintro e w2 ⟨rfl, hb2⟩
          have HB2 := Lib.hid (bup (bal brefl _) hb2)
          have b0 := (show w2.cell? ⟨wr.heap.size, 0, none⟩ = some (.int .i64 x.s) from boxed_cell hb2 0 rfl)
          have b1 := (show w2.cell? ⟨wr.heap.size, 1, none⟩ = some (.int .i64 x.d) from boxed_cell hb2 1 rfl)
          have b2 := (show w2.cell? ⟨wr.heap.size, 2, none⟩ = some (.bool x.p) from boxed_cell hb2 2 rfl)
          have b3 := (show w2.cell? ⟨wr.heap.size, 3, none⟩ = some (.int .i64 x.h) from boxed_cell hb2 3 rfl)
          have b4 := (show w2.cell? ⟨wr.heap.size, 4, none⟩ = some (.int .i64 x.a) from boxed_cell hb2 4 rfl)
          have HRW2 := Lib.hid (HRW.out.below HB2.out)
          have d0 := HRW2.out.cell encStp_len (i := 0) HY.out rfl
          have d1 := HRW2.out.cell encStp_len (i := 1) HY.out rfl
          have d2 := HRW2.out.cell encStp_len (i := 2) HY.out rfl
          have d3 := HRW2.out.cell encStp_len (i := 3) HY.out rfl
          have d4 := HRW2.out.cell encStp_len (i := 4) HY.out rfl
          simp only [Nat.add_zero] at d0
          have fr := fun o => HRW2.out.fro o
          have iz : (i : Int) < (n : Int) := by omega
          clear hb2
          go_wp2
          go_roundw
          case rel =>
            have hs := HRW2.out.set encStp_len (j := i) (by omega) x
            skip
            exact ⟨i + 1, j + 1, D.set i x, by go_num, by go_num, by omega, by omega, HI.out.keep HXX.out HT.out, hs.1, ztrans HG.out (ztrans (zbelow HB2.out _) hs.2)⟩
          case measure => simp [intOf]; omega
      · obtain rfl : j = n := by omega
        obtain ⟨i1, hi1, hz0, hz1, hz2⟩ := info_parts infoStp
        obtain ⟨g', cap', rest, he, -, hgw, -, -, hxl, hrl⟩ := own_whole hr.1 hn0
        cases he
        obtain ⟨Z, hZ⟩ : ∃ Z : Value, Z = .agg #[.int .i64 0, .int .i64 0, .bool false, .int .i64 0, .int .i64 0] := ⟨_, rfl⟩
        have hzl : (Builtin.zeroCells Z.cells (j - i)).toList.length = (j - i) * 5 := by rw [Array.length_toList, size_zeroCells, hZ]; rfl
        have hzo : ∀ u ∈ (Builtin.zeroCells Z.cells (j - i)).toList, u.oneCell' = true := zero_one (by
          rw [hZ]; intro u hu
          simp only [Value.cells, List.mem_cons, List.not_mem_nil, or_false] at hu
          rcases hu with rfl | rfl | rfl | rfl | rfl <;> rfl) _
        have hfit : i * 5 + (j - i) * 5 ≤ cap * 5 := by rw [← Nat.add_mul]; exact Nat.mul_le_mul_right _ (by omega)
        obtain ⟨cur, hcur⟩ : ∃ cur, (flatE encStp D ++ rest).toArray = cur := ⟨_, rfl⟩
        have hcsz : cur.size = cap * 5 := by rw [← hcur]; simpa using hrl
        rw [hcur] at hgw
        obtain ⟨W2, hW2⟩ : ∃ W2, W2 = wr.setRow g (cur.toList.take (i * 5) ++ (Builtin.zeroCells Z.cells (j - i)).toList ++ cur.toList.drop (i * 5 + (Builtin.zeroCells Z.cells (j - i)).toList.length)).toArray := ⟨_, rfl⟩
        have hcl : ∀ ty dc, (Builtin.clear_ #[67] ty #[.slice (some ⟨g, i * 5, none⟩) (j - i) dc]).run Tryz.prog wr = .ok (.tuple #[]) W2 := fun ty dc => by
          rw [hW2]
          exact run_clear_rowZ wr 67 88 ty i1 Z g (i * 5) (j - i) dc cur 88 Tryz.underlying67 hi1 (by rw [hz0, hZ]) hgw (by rw [hzl, hcsz]; exact hfit) hzo
        skip
        have hI0 := hI.fin (by have := HLN.out; omega)
        have hDn := hr.2
        have hiD := hI.ilt
        have hrow2 : RowZ 88 5 encStp base g i cap (D.take i) W2 := RowZ.cut encStp_len (Z := (Builtin.zeroCells Z.cells (j - i)).toList) hr (by omega) hzl (fun c hc => by
          rw [hgw] at hc; cases hc; rw [hW2]; exact heap_setRow hgw) hn0
        have hiM : M.length = i := by rw [← HM.out, ← hI0, List.length_take]; omega
        rw [hI0, HM.out] at hrow2
        have hg2 : w.grownBy W2 (some g) := by rw [hW2]; exact ztrans hg (grownBy_setRow _ _ _)
        have HC2 := Lib.hid hcl
        have HR2 := Lib.hid hrow2
        have HG2 := Lib.hid hg2
        have HIM := Lib.hid hiM
        have hil : i < j := by omega
        have hci : ¬ (cap = i) := by omega
        have hij2 : i ≤ j := by omega
        have hic : i ≤ cap := by omega
        clear hcl hrow2 hg2 hiM hW2 hgw hcur hcsz hfit hzo hzl hZ hI0 hI hr hg hz0 hz1 hz2 hi1 hxl hrl hDn hiD hij
        go_wp2_with (refine wpList_clear_runZ _ rfl (.tmp 38) 67 rfl (.slice (some ⟨g, i * 5, none⟩) (j - i) (cap - i)) rfl (HC2.out 0 (cap - i)) ?_)
        go_ret
        exact ⟨by rw [HIM.out]; rfl, by rw [HIM.out]; exact HR2.out, HG2.out⟩
  · rw [if_neg hlt] at H
    have HH := Lib.hid H
    have hML : M = L := by rw [← HM.out]; exact dl_none (by have := HLN.out; have := HQ.out; omega)
    subst hML
    rw [HLN.out]
    clear H
    go_enter Tryz.func142, Tryz.ntmps142
    go_wp2_with fail
    refine HH.out.mono ?_
    rintro e w1 ⟨rfl, hb1⟩
    go_wp2
    go_ret
    exact ⟨rfl, HR.out.below hb1, zbelow hb1 _⟩
/-- any row of the call's own, nil or not -/
theorem dlfStp_any (F : Nat) (cb : Array Value) (p : Stp → Bool) (Q : Stp → Prop) (base : Nat) (v : Value) (L : List Stp) (w : World)
    (eg : ∀ args w, (callFunc F args).run Tryz.prog w = .ok (.enter F args) w) (hp : ProStp F cb v.ownBlock p Q w) (hQ : ∀ x ∈ L, Q x) (hown : w.ownsRow base 88 5 v L.length (flatE encStp L)) (hn : L.length ≤ 1000000) :
    Calls Tryz.prog 142 #[v, .func (.func F) #[] cb] w fun e w' => ∃ v', e = .returned v' ∧ w'.ownsRow base 88 5 v' (L.filter fun x => !p x).length (flatE encStp (L.filter fun x => !p x)) ∧ w.grownBy w' v.ownBlock := by
  rcases Nat.eq_zero_or_pos L.length with h0 | h0
  · obtain rfl : L = [] := List.eq_nil_of_length_eq_zero h0
    have H := ixfStp_any (fun _ => True) F cb p Q _ [] w eg hp.prd hQ (Sl.own encStp_len hown rfl (fun _ _ => trivial)) (by simp)
    obtain ⟨ao, c, rfl⟩ := own_sl hown
    have HH := Lib.hid H
    have HO := Lib.hid hown
    clear H hp hQ hown
    go_enter Tryz.func142, Tryz.ntmps142
    go_wp2_with fail
    refine HH.out.mono ?_
    rintro e w1 ⟨rfl, hb1⟩
    go_wp2
    go_ret
    exact ⟨_, rfl, ownsRow_belowZ HO.out hb1, zbelow hb1 _⟩
  · obtain ⟨g, cap, rest, rfl, hbg, hg, hnc, hcm, hxl, hrl⟩ := own_whole hown h0
    refine (dlrStp_any F cb p Q base g L.length cap L w eg hp hQ ⟨hown, rfl⟩ hn h0).mono ?_
    rintro e w' ⟨rfl, hr, hgr⟩
    exact ⟨_, rfl, hr.1, hgr⟩
end Go.Proofs.YthhoaefadfeknaaGreat
