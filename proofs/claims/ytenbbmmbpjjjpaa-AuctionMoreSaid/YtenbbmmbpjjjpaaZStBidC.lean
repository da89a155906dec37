/- slices.insertionSortCmpFunc, SortStableFunc's blocks, at [](struct). Printed by wip/gen/sortz.py. slices.swapRangeCmpFunc, rotateCmpFunc, at [](struct); printed by wip/gen/sortz2.py. slices.rotateCmpFunc, and symMergeCmpFunc's two short ways, at [](struct); printed by wip/gen/sortz2.py. -/
import Derived.Test.YtenbbmmbpjjjpaaZSortR
import Derived.Test.YtenbbmmbpjjjpaaZAucA
import Derived.Test.YtenbbmmbpjjjpaaZRegP
import Derived.RegionTactic
import Derived.ChangeAlike
import Derived.BigRegion
import Derived.BigQuiet
import Derived.Deep.DeepCutAuto
import Derived.Deep.CutBlock
import Derived.Shelf.Abstract
namespace Go.Proofs.Ytenbbmmbpjjjpaa
open Go.RowKit
set_option linter.unusedVariables false
set_option linter.unusedSimpArgs false
def vBid (x : Bid) : Value := .agg #[.int .i64 x.bd, .int .i64 x.num, .int .i64 x.p, .int .i64 x.a, .bool x.f]
/-- the function F, bound to cb, compares two elements with Q wherever block g alone has turned; it may make memory -/
def CmpBid (F : Nat) (cb : Array Value) (g : Nat) (cf : Bid → Bid → Int) (Q : Bid → Prop) (w : World) : Prop :=
  ∀ W, w.grownBy W (some g) → ∀ x y, Q x → Q y → Calls Try.prog F (#[vBid x, vBid y] ++ cb) W fun e w' => e = .returned (.int .i64 (cf x y)) ∧ Below W.heap.size W w'
theorem CmpBid.on {F : Nat} {cb : Array Value} {g : Nat} {cf : Bid → Bid → Int} {Q : Bid → Prop} {w w' : World} (h : CmpBid F cb g cf Q w) (hg : w.grownBy w' (some g)) : CmpBid F cb g cf Q w' :=
  fun W hW x y hx hy => h W (ztrans hg hW) x y hx hy
abbrev RowBid (base g n cap : Nat) (L : List Bid) (w : World) : Prop := RowZ 37 5 encBid base g n cap L w
set_option maxHeartbeats 8000000 in
set_option maxRecDepth 100000 in
theorem insBid_any (F : Nat) (cb : Array Value) (cf : Bid → Bid → Int) (Q : Bid → Prop) (base g n cap a b : Nat) (X A Y : List Bid) (w : World)
    (eg : ∀ args w, (callFunc F args).run Try.prog w = .ok (.enter F args) w) (hcmp : CmpBid F cb g cf Q w) (hW : Wk (ltz cf)) (hQ : ∀ x ∈ A, Q x)
    (hrow : RowBid base g n cap (X ++ A ++ Y) w) (ha : X.length = a) (hb : a + A.length = b) (hn : n ≤ 1000000000) :
    Calls Try.prog 71 #[.slice (some ⟨g, 0, none⟩) n cap, .int .i64 a, .int .i64 b, .func (.func F) #[] cb] w fun e w' => e = .returned (.tuple #[]) ∧ RowBid base g n cap (X ++ srt (ltz cf) A ++ Y) w' ∧ w.grownBy w' (some g) := by
  have hlen : X.length + A.length + Y.length = n := by have := hrow.2; simp at this; omega
  have hbn : b ≤ n := by omega
  have HC := Lib.hid hcmp
  have HQ := Lib.hid hQ
  have HA := Lib.hid ha
  have HB := Lib.hid hb
  have HW := Lib.hid hW
  have HR := Lib.hid hrow
  clear hcmp hQ hW hrow hlen ha
  go_enter Try.func71, Try.ntmps71
  go_wp2
  go_loopw [8] (fun iv wr => ∃ i : Nat, a + 1 ≤ i ∧ i ≤ b + 1 ∧ iv = .int .i64 i ∧ RowBid base g n cap (X ++ srt (ltz cf) (A.take (i - a)) ++ (A.drop (i - a) ++ Y)) wr ∧ w.grownBy wr (some g)) (fun iv _ => (b + 1) - (intOf iv).toNat)
  case atStart =>
    refine ⟨a + 1, by omega, by omega, by go_num, ?_, zrefl _ _⟩
    rw [show a + 1 - a = 1 by omega]
    have e : srt (ltz cf) (A.take 1) = A.take 1 := by
      cases A with
      | nil => rfl
      | cons x A => exact srt_one x
    rw [e, ← List.append_assoc, List.append_assoc X, List.take_append_drop]
    exact HR.out
  case round =>
    obtain ⟨i, hi1, hi2, rfl, hr, hg⟩ := hrel
    by_cases hlt : i < b
    · have hltz : (i : Int) < (b : Int) := by omega
      obtain ⟨x, hx⟩ : ∃ x, A[i - a]? = some x := ⟨_, List.getElem?_eq_getElem (by omega)⟩
      have hdrop := drop_cons hx
      have htake := take_snocZ hx
      have hxQ := HQ.out x (List.mem_of_getElem? hx)
      obtain ⟨S, hS⟩ : ∃ S, srt (ltz cf) (A.take (i - a)) = S := ⟨_, rfl⟩
      have hSl : S.length = i - a := by rw [← hS, srt_length, List.length_take]; omega
      have hSa : Asc (ltz cf) S := by rw [← hS]; exact srt_asc HW.out _
      have hSQ : ∀ z ∈ S, Q z := fun z hz => by rw [← hS] at hz; exact HQ.out z (List.mem_of_mem_take ((srt_mem _ _).1 hz))
      have hnext : srt (ltz cf) (A.take (i + 1 - a)) = mrg (ltz cf) S [x] := by rw [show i + 1 - a = i - a + 1 by omega, htake, srt_append HW.out, hS, srt_one]
      have hdrop' : A.drop (i + 1 - a) = A.drop (i - a + 1) := by rw [show i + 1 - a = i - a + 1 by omega]
      rw [hS, hdrop] at hr
      obtain ⟨T, hT⟩ : ∃ T, A.drop (i - a + 1) ++ Y = T := ⟨_, rfl⟩
      have hr' : RowBid base g n cap (X ++ S ++ x :: T) wr := by rw [← hT]; exact hr
      have hstart : InInz (ltz cf) X S T x i (X ++ S ++ x :: T) := ⟨S, [], by simp, by have := HA.out; omega, by simp, by simp⟩
      have HN := Lib.hid hnext
      have HD := Lib.hid hdrop'
      have HT := Lib.hid hT
      have HS := Lib.hid hSa
      have HSQ := Lib.hid hSQ
      have HR' := Lib.hid hr'
      have HST := Lib.hid hstart
      have HG := Lib.hid hg
      have HXQ := Lib.hid hxQ
      clear hx hdrop htake hS hSl hSa hSQ hnext hdrop' hr hT hr' hstart hg hxQ
      go_wp2
      go_loopw [9] (fun jv wr => ∃ (j : Nat) (D : List Bid), a ≤ j ∧ j ≤ i ∧ jv = .int .i64 j ∧ InInz (ltz cf) X S T x j D ∧ RowBid base g n cap D wr ∧ w.grownBy wr (some g)) (fun jv _ => (intOf jv).toNat)
      case atStart => exact ⟨i, _, by omega, by omega, rfl, HST.out, HR'.out, HG.out⟩
      case round =>
        obtain ⟨j, D, hj1, hj2, rfl, hI, hrow, hgr⟩ := hrel
        have done : (j = a ∨ ∃ y, D[j - 1]? = some y ∧ ltz cf x y = false) → D = X ++ srt (ltz cf) (A.take (i + 1 - a)) ++ (A.drop (i + 1 - a) ++ Y) := fun h => by
          rw [HN.out, HD.out, HT.out]
          exact hI.out HW.out HS.out (h.imp (fun h => by rw [HA.out]; exact h) id)
        have DONE := Lib.hid done
        clear done
        by_cases hja : a < j
        · obtain ⟨P, y, R, hD, hP, hstep⟩ := hI.step (by rw [HA.out]; exact hja)
          have hyQ : Q y := hI.mem HSQ.out (by rw [HA.out]; exact hja) (y := y) (by rw [hD, show j - 1 = P.length by omega]; exact (zget_pair P R y x).1)
          have hy1 : D[j - 1]? = some y := by rw [hD, show j - 1 = P.length by omega]; exact (zget_pair P R y x).1
          obtain ⟨jp, hjp⟩ : ∃ jp, jp = P.length := ⟨_, rfl⟩
          rw [← hjp] at hP hstep
          obtain rfl : j = jp + 1 := by omega
          have HDD := Lib.hid hD
          rw [hD] at hrow
          obtain ⟨x0, x1, x2, x3, x4⟩ := x
          obtain ⟨y0, y1, y2, y3, y4⟩ := y
          have hcp := (zget_pair P R (⟨y0, y1, y2, y3, y4⟩ : Bid) ⟨x0, x1, x2, x3, x4⟩).1
          have hcj := (zget_pair P R (⟨y0, y1, y2, y3, y4⟩ : Bid) ⟨x0, x1, x2, x3, x4⟩).2
          rw [← hjp] at hcp hcj
          obtain ⟨j1, hj1e⟩ : ∃ j1, j1 = jp + 1 := ⟨_, rfl⟩
          rw [← hj1e] at hcj
          have cp0 := hrow.cell encBid_len (i := 0) hcp rfl; have cp1 := hrow.cell encBid_len (i := 1) hcp rfl; have cp2 := hrow.cell encBid_len (i := 2) hcp rfl; have cp3 := hrow.cell encBid_len (i := 3) hcp rfl; have cp4 := hrow.cell encBid_len (i := 4) hcp rfl
          have cj0 := hrow.cell encBid_len (i := 0) hcj rfl; have cj1 := hrow.cell encBid_len (i := 1) hcj rfl; have cj2 := hrow.cell encBid_len (i := 2) hcj rfl; have cj3 := hrow.cell encBid_len (i := 3) hcj rfl; have cj4 := hrow.cell encBid_len (i := 4) hcj rfl
          simp only [Nat.add_zero] at cp0 cj0
          have fr := fun o => hrow.fro o
          have FR := Lib.hid fr
          have jz : (j1 : Int) < (n : Int) := by omega
          have jz1 : (jp : Int) < (n : Int) := by omega
          have p0 : (0 : Int) ≤ (j1 : Int) := by omega
          have hjaz : decide (a < j1) = true := by simp; omega
          have hj1i : j1 ≤ i := by omega
          have haj1 : a ≤ jp := by omega
          have hjaz2 : a < j1 := by omega
          have hw0 : (j1 : Int) - 1 = (jp : Int) := by omega
          have ejj : ((jp + 1 : Nat) : Int) = (j1 : Int) := by omega
          have hc := fun W (hW : Below wr.heap.size wr W) => HC.out W (ztrans hgr (zbelow hW _)) ⟨x0, x1, x2, x3, x4⟩ ⟨y0, y1, y2, y3, y4⟩ HXQ.out hyQ
          obtain ⟨c, hcf⟩ : ∃ c, cf ⟨x0, x1, x2, x3, x4⟩ ⟨y0, y1, y2, y3, y4⟩ = c := ⟨_, rfl⟩
          simp only [hcf, vBid] at hc
          have HCC := Lib.hid hc
          have HCF := Lib.hid hcf
          have HI := Lib.hid hI
          have HJP := Lib.hid hjp
          have HJ1 := Lib.hid hj1e
          have HP := Lib.hid hP
          have HST2 := Lib.hid hstep
          have HROW := Lib.hid hrow
          have HGR := Lib.hid hgr
          have HY1 := Lib.hid hy1
          clear hcf hI hjp hstep hD hrow hgr hyQ hy1 hP hcp hcj hc fr hj1e
          have cp0u := up_cell cp0; have cp1u := up_cell cp1; have cp2u := up_cell cp2; have cp3u := up_cell cp3; have cp4u := up_cell cp4; have cj0u := up_cell cj0; have cj1u := up_cell cj1; have cj2u := up_cell cj2; have cj3u := up_cell cj3; have cj4u := up_cell cj4
          rw [ejj]
          clear ejj hj1 hj2 hja
          by_cases hneg : c < 0
          · have hlt1 : ltz cf ⟨x0, x1, x2, x3, x4⟩ ⟨y0, y1, y2, y3, y4⟩ = true := by unfold ltz; rw [HCF.out]; exact decide_eq_true hneg
            have HL1 := Lib.hid hlt1
            clear hlt1
            go_upto_region 4 with fail
            (refine wp_region_up (by kernel_rfl) (by kernel_rfl) ?_); (repeat (go_big_quiet_step (((go_at_fn F; refine (HCC.out _ (Subtype.property _)).mono ?_; exact fun _ _ hh => ⟨hh.1, ⟨_, bup (Subtype.property _) hh.2⟩, rfl⟩))))); (refine wpQuiet_nil ?_); (rintro w2 ⟨⟨_, hb2⟩, rfl⟩)
            have HROW2 := Lib.hid (HROW.out.below hb2)
            have HGR2 := Lib.hid (ztrans HGR.out (zbelow hb2 _))
            have cp0 := keepB hb2 cp0; have cj0 := keepB hb2 cj0; have cp1 := keepB hb2 cp1; have cj1 := keepB hb2 cj1; have cp2 := keepB hb2 cp2; have cj2 := keepB hb2 cj2; have cp3 := keepB hb2 cp3; have cj3 := keepB hb2 cj3; have cp4 := keepB hb2 cp4; have cj4 := keepB hb2 cj4
            have fr := fun o => HROW2.out.fro o
            clear cp0u cp1u cp2u cp3u cp4u cj0u cj1u cj2u cj3u cj4u HROW HGR hb2
            go_wp2_with fail
            go_region
            all_goals go_wp2
            go_roundw
            case rel =>
              have hx := HROW2.out.nbr encBid_len 1 HJP.out.symm HJ1.out
              exact ⟨jp, _, by omega, by omega, by first | rfl | go_num | (congr 1; omega), HST2.out HL1.out, hx.1, ztrans HGR2.out hx.2⟩
            case measure => simp [intOf]; have := HJ1.out; omega
          · have hlt1 : ltz cf ⟨x0, x1, x2, x3, x4⟩ ⟨y0, y1, y2, y3, y4⟩ = false := by unfold ltz; rw [HCF.out]; exact decide_eq_false hneg
            have hfin := DONE.out (.inr ⟨⟨y0, y1, y2, y3, y4⟩, HY1.out, hlt1⟩)
            have HF := Lib.hid hfin
            clear hlt1 hfin
            go_upto_region 4 with fail
            (refine wp_region_up (by kernel_rfl) (by kernel_rfl) ?_); (repeat (go_big_quiet_step (((go_at_fn F; refine (HCC.out _ (Subtype.property _)).mono ?_; exact fun _ _ hh => ⟨hh.1, ⟨_, bup (Subtype.property _) hh.2⟩, rfl⟩))))); (refine wpQuiet_nil ?_); (rintro w2 ⟨⟨_, hb2⟩, rfl⟩)
            go_wp2
            go_roundw
            case rel => exact ⟨i + 1, by omega, by omega, by go_num, by rw [← HF.out, HDD.out]; exact HROW.out.below hb2, ztrans HGR.out (zbelow hb2 _)⟩
            case measure => simp [intOf]; omega
        · obtain rfl : j = a := by omega
          have HF := Lib.hid (DONE.out (.inl rfl))
          have HROW := Lib.hid hrow
          have HGR := Lib.hid hgr
          clear DONE hI hrow hgr hja
          have hd : decide ((j : Int) < (j : Int)) = false := by simp
          go_wp2_with fail
          go_quiet (fail)
          go_wp2
          go_roundw
          case rel => exact ⟨i + 1, by omega, by omega, by go_num, by rw [← HF.out]; exact HROW.out.drewN nq, ztrans HGR.out ⟨rfl, rfl, rfl, Nat.le_refl _, fun _ _ _ => rfl⟩⟩
          case measure => simp [intOf]; omega
    · have hd : ¬ (i : Int) < (b : Int) := by omega
      have hfin : X ++ srt (ltz cf) (A.take (i - a)) ++ (A.drop (i - a) ++ Y) = X ++ srt (ltz cf) A ++ Y := by
        rw [List.take_of_length_le (by have := HB.out; omega), List.drop_of_length_le (by have := HB.out; omega), List.nil_append]
      rw [hfin] at hr
      have HR2 := Lib.hid hr
      have HG2 := Lib.hid hg
      clear hfin hr hg
      go_wp2
      go_end0
      exact ⟨rfl, by simpa using HR2.out, HG2.out⟩
end Go.Proofs.Ytenbbmmbpjjjpaa
namespace Go.Proofs.Ytenbbmmbpjjjpaa
open Go.RowKit
set_option linter.unusedVariables false
set_option linter.unusedSimpArgs false

set_option maxHeartbeats 4000000 in
set_option maxRecDepth 100000 in
theorem swapRBid_any (fv : Value) (base g n cap a b k : Nat) (X U M V Y : List Bid) (w : World)
    (hrow : RowBid base g n cap (X ++ U ++ M ++ V ++ Y) w) (ha : X.length = a) (hU : U.length = k) (hb : a + k + M.length = b) (hV : V.length = k) (hn : n ≤ 1000000000) :
    Calls Try.prog 96 #[.slice (some ⟨g, 0, none⟩) n cap, .int .i64 a, .int .i64 b, .int .i64 k, fv] w fun e w' => e = .returned (.tuple #[]) ∧ RowBid base g n cap (X ++ V ++ M ++ U ++ Y) w' ∧ w.grownBy w' (some g) := by
  have hlen : X.length + U.length + M.length + V.length + Y.length = n := by have := hrow.2; simp at this; omega
  have hbn : b + k ≤ n := by omega
  have hab : a + k ≤ b := by omega
  have HA := Lib.hid ha
  have HU := Lib.hid hU
  have HB := Lib.hid hb
  have HV := Lib.hid hV
  have HR := Lib.hid hrow
  clear hrow hlen ha hU hb hV
  go_enter Try.func96, Try.ntmps96
  go_wp2
  go_loopw [10] (fun iv wr => ∃ i : Nat, i ≤ k ∧ iv = .int .i64 i ∧ RowBid base g n cap (X ++ V.take i ++ U.drop i ++ M ++ U.take i ++ V.drop i ++ Y) wr ∧ w.grownBy wr (some g)) (fun iv _ => k - (intOf iv).toNat)
  case atStart => exact ⟨0, by omega, rfl, by simpa using HR.out, zrefl _ _⟩
  case round =>
    obtain ⟨i, hi, rfl, hr, hg⟩ := hrel
    by_cases hlt : i < k
    · obtain ⟨x, hx⟩ : ∃ x, U[i]? = some x := ⟨_, List.getElem?_eq_getElem (by have := HU.out; omega)⟩
      obtain ⟨y, hy⟩ : ∃ y, V[i]? = some y := ⟨_, List.getElem?_eq_getElem (by have := HV.out; omega)⟩
      have e1 : X ++ V.take i ++ U.drop i ++ M ++ U.take i ++ V.drop i ++ Y = (X ++ V.take i) ++ x :: ((U.drop (i + 1) ++ M ++ U.take i) ++ y :: (V.drop (i + 1) ++ Y)) := by
        rw [drop_cons hx, drop_cons hy]; simp
      have e2 : (X ++ V.take i) ++ y :: ((U.drop (i + 1) ++ M ++ U.take i) ++ x :: (V.drop (i + 1) ++ Y)) = X ++ V.take (i + 1) ++ U.drop (i + 1) ++ M ++ U.take (i + 1) ++ V.drop (i + 1) ++ Y := by
        rw [take_snocZ hx, take_snocZ hy]; simp
      obtain ⟨P, hP⟩ : ∃ P, X ++ V.take i = P := ⟨_, rfl⟩
      obtain ⟨M', hM⟩ : ∃ M', U.drop (i + 1) ++ M ++ U.take i = M' := ⟨_, rfl⟩
      obtain ⟨R, hR⟩ : ∃ R, V.drop (i + 1) ++ Y = R := ⟨_, rfl⟩
      have hPl : P.length = a + i := by rw [← hP, List.length_append, List.length_take]; have := HA.out; have := HV.out; omega
      have hMl : a + i + 1 + M'.length = b + i := by
        rw [← hM, List.length_append, List.length_append, List.length_take, List.length_drop]; have := HU.out; have := HB.out; omega
      rw [e1, hP, hM, hR] at hr
      rw [hP, hM, hR] at e2
      have hcx := zget_at P (M' ++ y :: R) x hPl
      have hcy : (P ++ x :: (M' ++ y :: R))[b + i]? = some y := by
        have := zget_at (P ++ x :: M') R y (j := b + i) (by simp; omega)
        simpa using this
      obtain ⟨p, hp0⟩ : ∃ p, p = a + i := ⟨_, rfl⟩
      obtain ⟨r, hr0⟩ : ∃ r, r = b + i := ⟨_, rfl⟩
      rw [← hp0] at hcx
      rw [← hr0] at hcy
      obtain ⟨x0, x1, x2, x3, x4⟩ := x
      obtain ⟨y0, y1, y2, y3, y4⟩ := y
      have cx0 := hr.cell encBid_len (i := 0) hcx rfl; have cx1 := hr.cell encBid_len (i := 1) hcx rfl; have cx2 := hr.cell encBid_len (i := 2) hcx rfl; have cx3 := hr.cell encBid_len (i := 3) hcx rfl; have cx4 := hr.cell encBid_len (i := 4) hcx rfl; simp only [Nat.add_zero] at cx0
      have cy0 := hr.cell encBid_len (i := 0) hcy rfl; have cy1 := hr.cell encBid_len (i := 1) hcy rfl; have cy2 := hr.cell encBid_len (i := 2) hcy rfl; have cy3 := hr.cell encBid_len (i := 3) hcy rfl; have cy4 := hr.cell encBid_len (i := 4) hcy rfl; simp only [Nat.add_zero] at cy0
      have fr := fun o => hr.fro o
      have HE := Lib.hid e2
      have HPL := Lib.hid hPl
      have HML := Lib.hid hMl
      have HROW := Lib.hid hr
      have HG := Lib.hid hg
      clear hx hy e1 e2 hP hM hR hPl hMl hr hg hcx hcy
      have z1 : (a : Int) + i < n := by omega
      have z2 : (b : Int) + i < n := by omega
      have q1 : (0 : Int) ≤ (a : Int) + i := by omega
      have q2 : (0 : Int) ≤ (b : Int) + i := by omega
      have t1 : ((a : Int) + i).toNat = a + i := by omega
      have t2 : ((b : Int) + i).toNat = b + i := by omega
      have v1 : IntKind.i64.wrap ((a : Int) + i) = (a : Int) + i := by rw [IntKind.wrap_i64]; omega
      have v2 : IntKind.i64.wrap ((b : Int) + i) = (b : Int) + i := by rw [IntKind.wrap_i64]; omega
      rw [← hp0] at t1
      rw [← hr0] at t2
      have HPI := Lib.hid hp0
      have HRI := Lib.hid hr0
      have w1 : (a : Int) + i = (p : Int) := by omega
      have w2 : (b : Int) + i = (r : Int) := by omega
      have hpr : p ≠ r := by omega
      have z1' : (p : Int) < n := by omega
      have z2' : (r : Int) < n := by omega
      clear hp0 hr0 z1 z2 q1 q2 t1 t2 v1 v2
      go_wp2_with fail
      go_region
      all_goals go_wp2
      go_roundw
      case rel =>
        have hx := HROW.out.two encBid_len 1 HPL.out HML.out
        rw [← HPI.out, ← HRI.out] at hx
        exact ⟨i + 1, by omega, by go_num, by rw [← HE.out]; exact hx.1, ztrans HG.out hx.2⟩
      case measure => simp [intOf]; omega
    · have hd : ¬ (i : Int) < (k : Int) := by omega
      have hfin : X ++ V.take i ++ U.drop i ++ M ++ U.take i ++ V.drop i ++ Y = X ++ V ++ M ++ U ++ Y := by
        rw [List.take_of_length_le (by have := HV.out; omega), List.drop_of_length_le (by have := HU.out; omega), List.take_of_length_le (by have := HU.out; omega), List.drop_of_length_le (by have := HV.out; omega)]
        simp
      rw [hfin] at hr
      have HR2 := Lib.hid hr
      have HG2 := Lib.hid hg
      clear hfin hr hg
      go_wp2
      go_end0
      exact ⟨rfl, by simpa using HR2.out, HG2.out⟩
end Go.Proofs.Ytenbbmmbpjjjpaa
namespace Go.Proofs.Ytenbbmmbpjjjpaa
open Go.RowKit
set_option linter.unusedVariables false
set_option linter.unusedSimpArgs false

set_option maxHeartbeats 4000000 in
set_option maxRecDepth 100000 in
theorem rotBid_any (fv : Value) (base g n cap a m b : Nat) (X U V Y : List Bid) (w : World)
    (hrow : RowBid base g n cap (X ++ U ++ V ++ Y) w) (ha : X.length = a) (hm : a + U.length = m) (hb : m + V.length = b) (hU : 0 < U.length) (hV : 0 < V.length) (hn : n ≤ 1000000000) :
    Calls Try.prog 88 #[.slice (some ⟨g, 0, none⟩) n cap, .int .i64 a, .int .i64 m, .int .i64 b, fv] w fun e w' => e = .returned (.tuple #[]) ∧ RowBid base g n cap (X ++ V ++ U ++ Y) w' ∧ w.grownBy w' (some g) := by
  have hlen : X.length + U.length + V.length + Y.length = n := by have := hrow.2; simp at this; omega
  have hbn : b ≤ n := by omega
  obtain ⟨i0, hi0⟩ : ∃ i0, U.length = i0 := ⟨_, rfl⟩
  obtain ⟨j0, hj0⟩ : ∃ j0, V.length = j0 := ⟨_, rfl⟩
  rw [hi0] at hm hU
  rw [hj0] at hb hV
  have e1 : (m : Int) - a = i0 := by omega
  have e2 : (b : Int) - m = j0 := by omega
  have HA := Lib.hid ha
  have HI := Lib.hid hi0
  have HJ := Lib.hid hj0
  have HR := Lib.hid hrow
  have HM := Lib.hid hm
  have HB := Lib.hid hb
  clear hrow hlen ha hi0 hj0
  go_enter Try.func88, Try.ntmps88
  go_wp2
  go_loopw [10, 11] (fun iv jv wr => ∃ (i j : Nat) (X' U' V' Y' : List Bid), iv = .int .i64 i ∧ jv = .int .i64 j ∧ U'.length = i ∧ V'.length = j ∧ 0 < i ∧ 0 < j ∧ X'.length + i = m ∧ m + j ≤ n ∧ X' ++ V' ++ U' ++ Y' = X ++ V ++ U ++ Y ∧ RowBid base g n cap (X' ++ U' ++ V' ++ Y') wr ∧ w.grownBy wr (some g)) (fun iv jv _ => (intOf iv).toNat + (intOf jv).toNat)
  case atStart => exact ⟨i0, j0, X, U, V, Y, rfl, rfl, HI.out, HJ.out, hU, hV, by have := HA.out; omega, by omega, rfl, HR.out, zrefl _ _⟩
  case round =>
    obtain ⟨i, j, X', U', V', Y', rfl, rfl, hU', hV', hi, hj, hX, hmj, hL, hr, hg⟩ := hrel
    clear e1 e2
    obtain ⟨p, hp⟩ : ∃ p, X'.length = p := ⟨_, rfl⟩
    rw [hp] at hX
    have ep : (m : Int) - i = p := by omega
    have HP := Lib.hid hp
    have HU := Lib.hid hU'
    have HV := Lib.hid hV'
    have HX := Lib.hid hX
    have HL := Lib.hid hL
    have HR' := Lib.hid hr
    have HG := Lib.hid hg
    clear hp hU' hV' hX hL hr hg
    by_cases hij : i = j
    · subst hij
      have hc := fun W (hW : W = wr) => swapRBid_any fv base g n cap p m i X' U' [] V' Y' W (by rw [hW]; simpa using HR'.out) HP.out HU.out (by have := HX.out; simp; omega) HV.out hn
      have hne : ((i : Int) != (i : Int)) = false := by simp
      go_wp2_with (go_at_call 96; refine (hc _ rfl).mono ?_; rintro e w2 ⟨rfl, hr2, hg2⟩)
      go_end0
      refine ⟨rfl, ?_, ztrans HG.out hg2⟩
      have := HL.out
      simp only [List.append_nil, List.append_assoc] at hr2 this ⊢
      rw [← this]
      exact hr2
    · have hne : ((i : Int) == (j : Int)) = false := by simp; omega
      have hne2 : ((i : Int) != (j : Int)) = true := by simp; omega
      by_cases hgt : j < i
      · obtain ⟨U1, U2, hUU, hU1⟩ : ∃ U1 U2, U' = U1 ++ U2 ∧ U1.length = j := ⟨U'.take j, U'.drop j, (List.take_append_drop _ _).symm, by rw [List.length_take]; have := HU.out; omega⟩
        have hU2 : U2.length = i - j := by have := HU.out; rw [hUU, List.length_append] at this; omega
        have hc := fun W (hW : W = wr) => swapRBid_any fv base g n cap p m j X' U1 U2 V' Y' W (by rw [hW]; have := HR'.out; rw [hUU] at this; simpa using this) HP.out hU1 (by have := HX.out; omega) HV.out hn
        have hL' : (X' ++ V') ++ U1 ++ U2 ++ Y' = X ++ V ++ U ++ Y := by rw [← HL.out, hUU]; simp
        have HUU := Lib.hid hUU
        have HU1 := Lib.hid hU1
        have HU2 := Lib.hid hU2
        have HL' := Lib.hid hL'
        have es : (i : Int) - j = ((i - j : Nat) : Int) := by omega
        have hgz : (j : Int) < (i : Int) := by omega
        clear hUU hU1 hU2 hL'
        go_wp2_with (go_at_call 96; refine (hc _ rfl).mono ?_; rintro e w2 ⟨rfl, hr2, hg2⟩)
        have HR2 := Lib.hid hr2
        have HG2 := Lib.hid (ztrans HG.out hg2)
        clear hr2 hg2
        go_roundw
        case rel => exact ⟨i - j, j, X' ++ V', U2, U1, Y', by first | rfl | (congr 1; omega), rfl, HU2.out, HU1.out, by omega, by omega, by have := HX.out; have := HP.out; have := HV.out; simp; omega, by omega, HL'.out, by simpa using HR2.out, HG2.out⟩
        case measure => simp [intOf]; omega
      · obtain ⟨V1, V2, hVV, hV2⟩ : ∃ V1 V2, V' = V1 ++ V2 ∧ V2.length = i := ⟨V'.take (j - i), V'.drop (j - i), (List.take_append_drop _ _).symm, by rw [List.length_drop]; have := HV.out; omega⟩
        have hV1 : V1.length = j - i := by have := HV.out; rw [hVV, List.length_append] at this; omega
        have hc := fun W (hW : W = wr) => swapRBid_any fv base g n cap p (m + j - i) i X' U' V1 V2 Y' W (by rw [hW]; have := HR'.out; rw [hVV] at this; simpa using this) HP.out HU.out (by have := HX.out; omega) hV2 hn
        have hL' : X' ++ V1 ++ V2 ++ (U' ++ Y') = X ++ V ++ U ++ Y := by rw [← HL.out, hVV]; simp
        have HVV := Lib.hid hVV
        have HV1 := Lib.hid hV1
        have HV2 := Lib.hid hV2
        have HL' := Lib.hid hL'
        have es : (j : Int) - i = ((j - i : Nat) : Int) := by omega
        have es2 : (m : Int) + j - i = ((m + j - i : Nat) : Int) := by omega
        have hgz : ¬ (j : Int) < (i : Int) := by omega
        clear hVV hV1 hV2 hL'
        go_wp2_with (go_at_call 96; refine (hc _ rfl).mono ?_; rintro e w2 ⟨rfl, hr2, hg2⟩)
        have HR2 := Lib.hid hr2
        have HG2 := Lib.hid (ztrans HG.out hg2)
        clear hr2 hg2
        go_roundw
        case rel => exact ⟨i, j - i, X', V2, V1, U' ++ Y', rfl, by first | rfl | (congr 1; omega), HV2.out, HV1.out, by omega, by omega, by have := HX.out; have := HP.out; omega, by omega, HL'.out, by simpa using HR2.out, HG2.out⟩
        case measure => simp [intOf]; omega
end Go.Proofs.Ytenbbmmbpjjjpaa
