/- slices.insertionSortCmpFunc, SortStableFunc's blocks, at [](struct). Printed by wip/gen/sortz.py. -/
import Derived.Test.YtkdbdncboljfhaaSortL
import Derived.Test.YtkdbdncboljfhaaTypesA
import Derived.Test.YtkdbdncboljfhaaUp
import Derived.RegionTactic
import Derived.ChangeAlike
import Derived.BigRegion
import Derived.BigQuiet
import Derived.Deep.DeepCutAuto
import Derived.Deep.CutBlock
import Derived.Shelf.Abstract
namespace Go.Proofs.Ytkdbdncboljfhaa
open Go.RowKit
set_option linter.unusedVariables false
set_option linter.unusedSimpArgs false
def vTdr (x : Tdr) : Value := .agg #[.int .i64 x.h, .int .i64 x.n, .int .i64 x.p, .int .i64 x.a]
/-- the function F, bound to cb, compares two elements with Q wherever block g alone has turned; it may make memory -/
def CmpTdr (F : Nat) (cb : Array Value) (g : Nat) (cf : Tdr → Tdr → Int) (Q : Tdr → Prop) (w : World) : Prop :=
  ∀ W, w.grownBy W (some g) → ∀ x y, Q x → Q y → Calls Try.prog F (#[vTdr x, vTdr y] ++ cb) W fun e w' => e = .returned (.int .i64 (cf x y)) ∧ Below W.heap.size W w'
theorem CmpTdr.on {F : Nat} {cb : Array Value} {g : Nat} {cf : Tdr → Tdr → Int} {Q : Tdr → Prop} {w w' : World} (h : CmpTdr F cb g cf Q w) (hg : w.grownBy w' (some g)) : CmpTdr F cb g cf Q w' :=
  fun W hW x y hx hy => h W (ztrans hg hW) x y hx hy
abbrev RowTdr (base g n cap : Nat) (L : List Tdr) (w : World) : Prop := RowZ 28 4 encTdr base g n cap L w
set_option maxHeartbeats 8000000 in
set_option maxRecDepth 100000 in
theorem insTdr_any (F : Nat) (cb : Array Value) (cf : Tdr → Tdr → Int) (Q : Tdr → Prop) (base g n cap a b : Nat) (X A Y : List Tdr) (w : World)
    (eg : ∀ args w, (callFunc F args).run Try.prog w = .ok (.enter F args) w) (hcmp : CmpTdr F cb g cf Q w) (hW : Wk (ltz cf)) (hQ : ∀ x ∈ A, Q x)
    (hrow : RowTdr base g n cap (X ++ A ++ Y) w) (ha : X.length = a) (hb : a + A.length = b) (hn : n ≤ 1000000000) :
    Calls Try.prog 42 #[.slice (some ⟨g, 0, none⟩) n cap, .int .i64 a, .int .i64 b, .func (.func F) #[] cb] w fun e w' => e = .returned (.tuple #[]) ∧ RowTdr base g n cap (X ++ srt (ltz cf) A ++ Y) w' ∧ w.grownBy w' (some g) := by
  have hlen : X.length + A.length + Y.length = n := by have := hrow.2; simp at this; omega
  have hbn : b ≤ n := by omega
  have HC := Lib.hid hcmp
  have HQ := Lib.hid hQ
  have HA := Lib.hid ha
  have HB := Lib.hid hb
  have HW := Lib.hid hW
  have HR := Lib.hid hrow
  clear hcmp hQ hW hrow hlen ha
  go_enter Try.func42, Try.ntmps42
  go_wp2
  go_loopw [8] (fun iv wr => ∃ i : Nat, a + 1 ≤ i ∧ i ≤ b + 1 ∧ iv = .int .i64 i ∧ RowTdr base g n cap (X ++ srt (ltz cf) (A.take (i - a)) ++ (A.drop (i - a) ++ Y)) wr ∧ w.grownBy wr (some g)) (fun iv _ => (b + 1) - (intOf iv).toNat)
  case atStart =>
    refine ⟨a + 1, by omega, by omega, by go_num, ?_, zrefl _ _⟩
    rw [show a + 1 - a = 1 by omega]
    have e : srt (ltz cf) (A.take 1) = A.take 1 := by
      cases A with
      | nil => rfl
      | cons x A => exact srt_one x
    rw [e, ← List.append_assoc, List.append_assoc X, List.take_append_drop]
    exact HR.out
  case round =>
    obtain ⟨i, hi1, hi2, rfl, hr, hg⟩ := hrel
    by_cases hlt : i < b
    · have hltz : (i : Int) < (b : Int) := by omega
      obtain ⟨x, hx⟩ : ∃ x, A[i - a]? = some x := ⟨_, List.getElem?_eq_getElem (by omega)⟩
      have hdrop := drop_cons hx
      have htake := take_snocZ hx
      have hxQ := HQ.out x (List.mem_of_getElem? hx)
      obtain ⟨S, hS⟩ : ∃ S, srt (ltz cf) (A.take (i - a)) = S := ⟨_, rfl⟩
      have hSl : S.length = i - a := by rw [← hS, srt_length, List.length_take]; omega
      have hSa : Asc (ltz cf) S := by rw [← hS]; exact srt_asc HW.out _
      have hSQ : ∀ z ∈ S, Q z := fun z hz => by rw [← hS] at hz; exact HQ.out z (List.mem_of_mem_take ((srt_mem _ _).1 hz))
      have hnext : srt (ltz cf) (A.take (i + 1 - a)) = mrg (ltz cf) S [x] := by rw [show i + 1 - a = i - a + 1 by omega, htake, srt_append HW.out, hS, srt_one]
      have hdrop' : A.drop (i + 1 - a) = A.drop (i - a + 1) := by rw [show i + 1 - a = i - a + 1 by omega]
      rw [hS, hdrop] at hr
      obtain ⟨T, hT⟩ : ∃ T, A.drop (i - a + 1) ++ Y = T := ⟨_, rfl⟩
      have hr' : RowTdr base g n cap (X ++ S ++ x :: T) wr := by rw [← hT]; exact hr
      have hstart : InInz (ltz cf) X S T x i (X ++ S ++ x :: T) := ⟨S, [], by simp, by have := HA.out; omega, by simp, by simp⟩
      have HN := Lib.hid hnext
      have HD := Lib.hid hdrop'
      have HT := Lib.hid hT
      have HS := Lib.hid hSa
      have HSQ := Lib.hid hSQ
      have HR' := Lib.hid hr'
      have HST := Lib.hid hstart
      have HG := Lib.hid hg
      have HXQ := Lib.hid hxQ
      clear hx hdrop htake hS hSl hSa hSQ hnext hdrop' hr hT hr' hstart hg hxQ
      go_wp2
      go_loopw [9] (fun jv wr => ∃ (j : Nat) (D : List Tdr), a ≤ j ∧ j ≤ i ∧ jv = .int .i64 j ∧ InInz (ltz cf) X S T x j D ∧ RowTdr base g n cap D wr ∧ w.grownBy wr (some g)) (fun jv _ => (intOf jv).toNat)
      case atStart => exact ⟨i, _, by omega, by omega, rfl, HST.out, HR'.out, HG.out⟩
      case round =>
        obtain ⟨j, D, hj1, hj2, rfl, hI, hrow, hgr⟩ := hrel
        have done : (j = a ∨ ∃ y, D[j - 1]? = some y ∧ ltz cf x y = false) → D = X ++ srt (ltz cf) (A.take (i + 1 - a)) ++ (A.drop (i + 1 - a) ++ Y) := fun h => by
          rw [HN.out, HD.out, HT.out]
          exact hI.out HW.out HS.out (h.imp (fun h => by rw [HA.out]; exact h) id)
        have DONE := Lib.hid done
        clear done
        by_cases hja : a < j
        · obtain ⟨P, y, R, hD, hP, hstep⟩ := hI.step (by rw [HA.out]; exact hja)
          have hyQ : Q y := hI.mem HSQ.out (by rw [HA.out]; exact hja) (y := y) (by rw [hD, show j - 1 = P.length by omega]; exact (zget_pair P R y x).1)
          have hy1 : D[j - 1]? = some y := by rw [hD, show j - 1 = P.length by omega]; exact (zget_pair P R y x).1
          obtain ⟨jp, hjp⟩ : ∃ jp, jp = P.length := ⟨_, rfl⟩
          rw [← hjp] at hP hstep
          obtain rfl : j = jp + 1 := by omega
          have HDD := Lib.hid hD
          rw [hD] at hrow
          obtain ⟨x0, x1, x2, x3⟩ := x
          obtain ⟨y0, y1, y2, y3⟩ := y
          have hcp := (zget_pair P R (⟨y0, y1, y2, y3⟩ : Tdr) ⟨x0, x1, x2, x3⟩).1
          have hcj := (zget_pair P R (⟨y0, y1, y2, y3⟩ : Tdr) ⟨x0, x1, x2, x3⟩).2
          rw [← hjp] at hcp hcj
          obtain ⟨j1, hj1e⟩ : ∃ j1, j1 = jp + 1 := ⟨_, rfl⟩
          rw [← hj1e] at hcj
          have cp0 := hrow.cell encTdr_len (i := 0) hcp rfl; have cp1 := hrow.cell encTdr_len (i := 1) hcp rfl; have cp2 := hrow.cell encTdr_len (i := 2) hcp rfl; have cp3 := hrow.cell encTdr_len (i := 3) hcp rfl
          have cj0 := hrow.cell encTdr_len (i := 0) hcj rfl; have cj1 := hrow.cell encTdr_len (i := 1) hcj rfl; have cj2 := hrow.cell encTdr_len (i := 2) hcj rfl; have cj3 := hrow.cell encTdr_len (i := 3) hcj rfl
          simp only [Nat.add_zero] at cp0 cj0
          have fr := fun o => hrow.fro o
          have FR := Lib.hid fr
          have jz : (j1 : Int) < (n : Int) := by omega
          have jz1 : (jp : Int) < (n : Int) := by omega
          have p0 : (0 : Int) ≤ (j1 : Int) := by omega
          have hjaz : decide (a < j1) = true := by simp; omega
          have hj1i : j1 ≤ i := by omega
          have haj1 : a ≤ jp := by omega
          have hjaz2 : a < j1 := by omega
          have hw0 : (j1 : Int) - 1 = (jp : Int) := by omega
          have ejj : ((jp + 1 : Nat) : Int) = (j1 : Int) := by omega
          have hc := fun W (hW : Below wr.heap.size wr W) => HC.out W (ztrans hgr (zbelow hW _)) ⟨x0, x1, x2, x3⟩ ⟨y0, y1, y2, y3⟩ HXQ.out hyQ
          obtain ⟨c, hcf⟩ : ∃ c, cf ⟨x0, x1, x2, x3⟩ ⟨y0, y1, y2, y3⟩ = c := ⟨_, rfl⟩
          simp only [hcf, vTdr] at hc
          have HCC := Lib.hid hc
          have HCF := Lib.hid hcf
          have HI := Lib.hid hI
          have HJP := Lib.hid hjp
          have HJ1 := Lib.hid hj1e
          have HP := Lib.hid hP
          have HST2 := Lib.hid hstep
          have HROW := Lib.hid hrow
          have HGR := Lib.hid hgr
          have HY1 := Lib.hid hy1
          clear hcf hI hjp hstep hD hrow hgr hyQ hy1 hP hcp hcj hc fr hj1e
          have cp0u := up_cell cp0; have cp1u := up_cell cp1; have cp2u := up_cell cp2; have cp3u := up_cell cp3; have cj0u := up_cell cj0; have cj1u := up_cell cj1; have cj2u := up_cell cj2; have cj3u := up_cell cj3
          rw [ejj]
          clear ejj hj1 hj2 hja
          by_cases hneg : c < 0
          · have hlt1 : ltz cf ⟨x0, x1, x2, x3⟩ ⟨y0, y1, y2, y3⟩ = true := by unfold ltz; rw [HCF.out]; exact decide_eq_true hneg
            have HL1 := Lib.hid hlt1
            clear hlt1
            go_upto_region 4 with fail
            (refine wp_region_up (by kernel_rfl) (by kernel_rfl) ?_); (repeat (go_big_quiet_step (((go_at_fn F; refine (HCC.out _ (Subtype.property _)).mono ?_; exact fun _ _ hh => ⟨hh.1, ⟨_, bup (Subtype.property _) hh.2⟩, rfl⟩))))); (refine wpQuiet_nil ?_); (rintro w2 ⟨⟨_, hb2⟩, rfl⟩)
            have HROW2 := Lib.hid (HROW.out.below hb2)
            have HGR2 := Lib.hid (ztrans HGR.out (zbelow hb2 _))
            have cp0 := keepB hb2 cp0; have cj0 := keepB hb2 cj0; have cp1 := keepB hb2 cp1; have cj1 := keepB hb2 cj1; have cp2 := keepB hb2 cp2; have cj2 := keepB hb2 cj2; have cp3 := keepB hb2 cp3; have cj3 := keepB hb2 cj3
            have fr := fun o => HROW2.out.fro o
            clear cp0u cp1u cp2u cp3u cj0u cj1u cj2u cj3u HROW HGR hb2
            go_wp2_with fail
            go_region
            all_goals go_wp2
            go_roundw
            case rel =>
              have hx := HROW2.out.nbr encTdr_len 1 HJP.out.symm HJ1.out
              exact ⟨jp, _, by omega, by omega, by first | rfl | go_num | (congr 1; omega), HST2.out HL1.out, hx.1, ztrans HGR2.out hx.2⟩
            case measure => simp [intOf]; have := HJ1.out; omega
          · have hlt1 : ltz cf ⟨x0, x1, x2, x3⟩ ⟨y0, y1, y2, y3⟩ = false := by unfold ltz; rw [HCF.out]; exact decide_eq_false hneg
            have hfin := DONE.out (.inr ⟨⟨y0, y1, y2, y3⟩, HY1.out, hlt1⟩)
            have HF := Lib.hid hfin
            clear hlt1 hfin
            go_upto_region 4 with fail
            (refine wp_region_up (by kernel_rfl) (by kernel_rfl) ?_); (repeat (go_big_quiet_step (((go_at_fn F; refine (HCC.out _ (Subtype.property _)).mono ?_; exact fun _ _ hh => ⟨hh.1, ⟨_, bup (Subtype.property _) hh.2⟩, rfl⟩))))); (refine wpQuiet_nil ?_); (rintro w2 ⟨⟨_, hb2⟩, rfl⟩)
            go_wp2
            go_roundw
            case rel => exact ⟨i + 1, by omega, by omega, by go_num, by rw [← HF.out, HDD.out]; exact HROW.out.below hb2, ztrans HGR.out (zbelow hb2 _)⟩
            case measure => simp [intOf]; omega
        · obtain rfl : j = a := by omega
          have HF := Lib.hid (DONE.out (.inl rfl))
          have HROW := Lib.hid hrow
          have HGR := Lib.hid hgr
          clear DONE hI hrow hgr hja
          have hd : decide ((j : Int) < (j : Int)) = false := by simp
          go_wp2_with fail
          go_quiet (fail)
          go_wp2
          go_roundw
          case rel => exact ⟨i + 1, by omega, by omega, by go_num, by rw [← HF.out]; exact HROW.out.drewN nq, ztrans HGR.out ⟨rfl, rfl, rfl, Nat.le_refl _, fun _ _ _ => rfl⟩⟩
          case measure => simp [intOf]; omega
    · have hd : ¬ (i : Int) < (b : Int) := by omega
      have hfin : X ++ srt (ltz cf) (A.take (i - a)) ++ (A.drop (i - a) ++ Y) = X ++ srt (ltz cf) A ++ Y := by
        rw [List.take_of_length_le (by have := HB.out; omega), List.drop_of_length_le (by have := HB.out; omega), List.nil_append]
      rw [hfin] at hr
      have HR2 := Lib.hid hr
      have HG2 := Lib.hid hg
      clear hfin hr hg
      go_wp2
      go_end0
      exact ⟨rfl, by simpa using HR2.out, HG2.out⟩
end Go.Proofs.Ytkdbdncboljfhaa
