/- slices.IndexFunc, ContainsFunc, DeleteFunc at [](treasury/api.Bid), with a function value that may make memory. Printed by wip/gen/fnx.py. -/
import Derived.Test.YtenbbmmbpjjjpaaZRegP
import Derived.Test.YtenbbmmbpjjjpaaZAucA
import Derived.Test.YtenbbmmbpjjjpaaZSortR
import Derived.Test.YtenbbmmbpjjjpaaZFnStp
import Derived.BigQuiet
import Derived.ChangeAlike
import Derived.Shelf.Abstract
import Derived.RegionTactic
namespace Go.Proofs.Ytenbbmmbpjjjpaa
open Go.RowKit
set_option linter.unusedVariables false
set_option linter.unusedSimpArgs false
def uBid (x : Bid) : Value := .agg #[.int .i64 x.bd, .int .i64 x.num, .int .i64 x.p, .int .i64 x.a, .bool x.f]
/-- the function F, bound to cb, gives p at the elements with Q in every world above w; it may make memory -/
def PrdBid (F : Nat) (cb : Array Value) (p : Bid → Bool) (Q : Bid → Prop) (w : World) : Prop :=
  ∀ W, Below w.heap.size w W → ∀ x, Q x → Calls Try.prog F (#[uBid x] ++ cb) W fun e w' => e = .returned (.bool (p x)) ∧ Below W.heap.size W w'
theorem PrdBid.on {F : Nat} {cb : Array Value} {p : Bid → Bool} {Q : Bid → Prop} {w w' : World} (h : PrdBid F cb p Q w) (hb : Below w.heap.size w w') : PrdBid F cb p Q w' := fun W hW x hx => h W (bup hb hW) x hx
set_option maxHeartbeats 2000000 in
theorem ixfBid_any (P : Nat → Prop) (F : Nat) (cb : Array Value) (p : Bid → Bool) (Q : Bid → Prop) (v : Value) (L : List Bid) (w : World)
    (eg : ∀ args w, (callFunc F args).run Try.prog w = .ok (.enter F args) w) (hp : PrdBid F cb p Q w) (hQ : ∀ x ∈ L, Q x) (hS : Sl 5 encBid P w v L) (hlen : L.length ≤ 1000000) :
    Calls Try.prog 63 #[v, .func (.func F) #[] cb] w fun e w' => e = .returned (.int .i64 (if L.findIdx p < L.length then (L.findIdx p : Int) else -1)) ∧ Below w.heap.size w w' := by
  obtain ⟨ao, n, c, rfl, hn, hnc, hcm⟩ := hS.shape
  have hn1 : n ≤ 1000000 := by omega
  rw [hn]
  obtain ⟨q, hq⟩ : ∃ q, L.findIdx p = q := ⟨_, rfl⟩
  rw [hq]
  obtain ⟨r, hr⟩ : ∃ r, (if q < n then (q : Int) else -1) = r := ⟨_, rfl⟩
  rw [hr]
  have HC := Lib.hid hp
  have HX := Lib.hid hQ
  have HS := Lib.hid hS
  have HN := Lib.hid hn
  have HP := Lib.hid hq
  have HR := Lib.hid hr
  clear hS hn hq hlen hr hp hQ
  go_enter Try.func63, Try.ntmps63
  go_wp2
  go_loopw [8] (fun iv wr => ∃ k : Nat, k ≤ n ∧ iv = .int .i64 k ∧ q = k + (L.drop k).findIdx p ∧ Below w.heap.size w wr) (fun iv _ => n - (intOf iv).toNat)
  case atStart => exact ⟨0, by omega, rfl, by rw [List.drop_zero, Nat.zero_add]; exact HP.out.symm, brefl⟩
  case round =>
    obtain ⟨k, hk, rfl, hpk, hbr⟩ := hrel
    have zr := hbr.size
    by_cases hlt : k < n
    · obtain ⟨b, off, vbd, vnum, vp, va, vf, rfl, -, hb', hL, k0, k1, k2, k3, k4⟩ := (HS.out.below hbr).bid hlt
      rw [drop_cons hL, List.findIdx_cons] at hpk
      have hc := HC.out wr hbr ⟨vbd, vnum, vp, va, vf⟩ (HX.out _ (List.mem_of_getElem? hL))
      obtain ⟨t, ht⟩ : ∃ t, p ⟨vbd, vnum, vp, va, vf⟩ = t := ⟨_, rfl⟩
      simp only [ht, uBid] at hc
      rw [ht] at hpk
      have HCC := Lib.hid hc
      have HBR := Lib.hid hbr
      clear hL ht hc hbr
      cases t with
      | true =>
        have hfin := Lib.hid (show (k : Int) = r by simp at hpk; rw [← HR.out, if_pos (by omega)]; omega)
        clear hpk
        go_wp2_with fail
        refine HCC.out.mono ?_
        rintro e w' ⟨rfl, hb⟩
        go_wp2
        go_ret
        exact ⟨ret_int hfin.out, bup HBR.out hb⟩
      | false =>
        have HPK := Lib.hid (show q = (k + 1) + (L.drop (k + 1)).findIdx p by simp at hpk; omega)
        clear hpk
        go_wp2_with fail
        refine HCC.out.mono ?_
        rintro e w' ⟨rfl, hb⟩
        go_wp2
        go_roundw
        case rel => exact ⟨k + 1, by omega, by go_num, HPK.out, bup HBR.out hb⟩
        case measure => simp [intOf]; omega
    · rw [drop_all (by have := HN.out; omega)] at hpk
      have hfin := Lib.hid (show (-1 : Int) = r by simp at hpk; rw [← HR.out, if_neg (by omega)])
      clear hpk
      go_wp2
      go_ret
      exact ⟨ret_int hfin.out, hbr⟩
theorem idwBid_any (p : Bid → Bool) : ∀ L : List Bid, L.any p = decide (0 ≤ (if L.findIdx p < L.length then (L.findIdx p : Int) else -1))
  | [] => by simp
  | x :: L => by
    have ih := idwBid_any p L
    rw [List.findIdx_cons, List.any_cons]
    cases p x
    · simp only [Bool.false_or, cond_false, List.length_cons, ih, decide_eq_decide]
      split <;> split <;> omega
    · simp
theorem cnfBid_any (P : Nat → Prop) (F : Nat) (cb : Array Value) (p : Bid → Bool) (Q : Bid → Prop) (v : Value) (L : List Bid) (w : World)
    (eg : ∀ args w, (callFunc F args).run Try.prog w = .ok (.enter F args) w) (hp : PrdBid F cb p Q w) (hQ : ∀ x ∈ L, Q x) (hS : Sl 5 encBid P w v L) (hlen : L.length ≤ 1000000) :
    Calls Try.prog 48 #[v, .func (.func F) #[] cb] w fun e w' => e = .returned (.bool (L.any p)) ∧ Below w.heap.size w w' := by
  have H := ixfBid_any P F cb p Q v L w eg hp hQ hS hlen
  rw [idwBid_any]
  obtain ⟨r, hr⟩ : ∃ r, (if L.findIdx p < L.length then (L.findIdx p : Int) else -1) = r := ⟨_, rfl⟩
  rw [hr] at H ⊢
  obtain ⟨ao, n, c, rfl, -, -, -⟩ := hS.shape
  have HH := Lib.hid H
  clear H hr hp hQ hS hlen
  go_enter Try.func48, Try.ntmps48
  go_wp2_with fail
  refine HH.out.mono ?_
  rintro e w1 ⟨rfl, hb⟩
  go_wp2
  go_ret
  exact ⟨ret_bool (by first | rfl | simp), hb⟩
end Go.Proofs.Ytenbbmmbpjjjpaa
