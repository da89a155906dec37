/- The register's searches: find, place, held, outstanding, strange. -/
import Derived.Test.YthjaofgdickkaaaGreatRegA
namespace Go.Proofs.YthjaofgdickkaaaGreat
open Go.RowKit
set_option linter.unusedVariables false
set_option linter.unusedSimpArgs false

theorem regholder_any (n : Int) (w : World) : Calls Tryz.prog 339 #[.int .i64 n] w fun e w' => e = .returned (.bool (inB n 1 1000)) ∧ w = w' := by
  go_enter Tryz.func339, Tryz.ntmps339
  go_wp2_with (go_at_call 226; refine (amongR_any _ _ _ _).mono ?_; rintro e w' ⟨rfl, rfl⟩)
  go_ret
  exact ⟨rfl, rfl⟩
/-- the place of a security, or the length -/
def idxS : List Sec → Int → Nat
  | [], _ => 0
  | s :: L, id => if s.id = id then 0 else idxS L id + 1
theorem idxS_le : ∀ (L : List Sec) (id : Int), idxS L id ≤ L.length
  | [], _ => Nat.le_refl _
  | s :: L, id => by have := idxS_le L id; simp only [idxS, List.length_cons]; split <;> omega
theorem findS_idx : ∀ (L : List Sec) (id : Int), findS L id = L[idxS L id]?
  | [], _ => rfl
  | s :: L, id => by
    simp only [findS, idxS]
    split
    · rfl
    · rw [findS_idx L id]; rfl
theorem find1_any (id un is ma ra ev : Int) (ix : Bool) (x : Int) (ib : Nat) (w : World) (h : w.cell? ⟨ib, 0, none⟩ = some (.int .i64 x)) :
    Calls Tryz.prog 283 #[.agg #[.int .i64 id, .int .i64 un, .int .i64 is, .int .i64 ma, .int .i64 ra, .int .i64 ev, .bool ix], .pointer (some ⟨ib, 0, none⟩)] w fun e w' => e = .returned (.bool (id == x)) ∧ Below w.heap.size w w' := by
  have hlt := World.block_lt_of_cell? w _ h
  simp only at hlt
  have hne : ¬ ib = w.heap.size := by omega
  have h' : (w.alloc (.cells #[.int .i64 id, .int .i64 un, .int .i64 is, .int .i64 ma, .int .i64 ra, .int .i64 ev, .bool ix] 26)).cell? ⟨ib, 0, none⟩ = some (.int .i64 x) := (World.cell?_alloc_past _ _ _ hlt).trans h
  go_enter Tryz.func283, Tryz.ntmps283
  go_wp2
  go_ret
  exact ⟨rfl, bal brefl _⟩
set_option maxHeartbeats 1000000 in
theorem idxSec_any (P : Nat → Prop) (v : Value) (L : List Sec) (x : Int) (ib : Nat) (w : World) (hS : Sl 7 encSec P w v L) (hlen : L.length ≤ 1000000) (hi : w.cell? ⟨ib, 0, none⟩ = some (.int .i64 x)) :
    Calls Tryz.prog 237 #[v, .func (.func 283) #[] #[.pointer (some ⟨ib, 0, none⟩)]] w fun e w' => e = .returned (.int .i64 (if idxS L x < L.length then (idxS L x : Int) else -1)) ∧ Below w.heap.size w w' := by
  obtain ⟨ao, n, c, rfl, hn, hnc, hcm⟩ := hS.shape
  have hn1 : n ≤ 1000000 := by omega
  rw [hn]
  obtain ⟨p, hp⟩ : ∃ p, idxS L x = p := ⟨_, rfl⟩
  rw [hp]
  obtain ⟨r, hr⟩ : ∃ r, (if p < n then (p : Int) else -1) = r := ⟨_, rfl⟩
  rw [hr]
  have HS := Lib.hid hS
  have HN := Lib.hid hn
  have HP := Lib.hid hp
  have HI := Lib.hid hi
  have HR := Lib.hid hr
  clear hS hn hp hlen hi hr
  go_enter Tryz.func237, Tryz.ntmps237
  go_wp2
  go_loopw [8] (fun iv wr => ∃ k : Nat, k ≤ n ∧ iv = .int .i64 k ∧ p = k + idxS (L.drop k) x ∧ Below w.heap.size w wr) (fun iv _ => n - (intOf iv).toNat)
  case atStart => exact ⟨0, by omega, rfl, by rw [List.drop_zero, Nat.zero_add]; exact HP.out.symm, brefl⟩
  case round =>
    obtain ⟨k, hk, rfl, hpk, hbr⟩ := hrel
    have zr := hbr.size
    by_cases hlt : k < n
    · obtain ⟨b, off, vid, vun, vis, vma, vra, vev, vix, rfl, -, hb', hL, k0, k1, k2, k3, k4, k5, k6⟩ := (HS.out.below hbr).sec hlt
      rw [drop_cons hL] at hpk
      simp only [idxS] at hpk
      have HI' := Lib.hid (keepB hbr HI.out)
      clear hL
      by_cases hq : vid = x
      · rw [if_pos hq, Nat.add_zero] at hpk
        have HQ := Lib.hid (show (vid == x) = true by simpa using hq)
        have hfin := Lib.hid (show (k : Int) = r by rw [← HR.out, if_pos (by omega)]; omega)
        clear hq hpk
        go_wp2_with fail
        refine (find1_any _ _ _ _ _ _ _ _ _ _ HI'.out).mono ?_
        rw [HQ.out]
        rintro e w' ⟨rfl, hb⟩
        go_wp2
        go_ret
        exact ⟨ret_int hfin.out, bup hbr hb⟩
      · rw [if_neg hq] at hpk
        have HQ := Lib.hid (show (vid == x) = false by simpa using hq)
        have HPK := Lib.hid (show p = (k + 1) + idxS (L.drop (k + 1)) x by omega)
        clear hq hpk
        go_wp2_with fail
        refine (find1_any _ _ _ _ _ _ _ _ _ _ HI'.out).mono ?_
        rw [HQ.out]
        rintro e w' ⟨rfl, hb⟩
        go_wp2
        go_roundw
        case rel => exact ⟨k + 1, by omega, by go_num, HPK.out, bup hbr hb⟩
        case measure => simp [intOf]; omega
    · rw [drop_all (by have := HN.out; omega)] at hpk
      simp only [idxS] at hpk
      have hfin := Lib.hid (show (-1 : Int) = r by rw [← HR.out, if_neg (by omega)])
      clear hpk
      go_wp2
      go_ret
      exact ⟨ret_int hfin.out, hbr⟩
/-- the value of a security -/
def valSec (s : Sec) : Value := .agg #[.int .i64 s.id, .int .i64 s.un, .int .i64 s.is, .int .i64 s.ma, .int .i64 s.ra, .int .i64 s.ev, .bool s.ix]
theorem find_no (P : Nat → Prop) (v : Value) (L : List Sec) (x : Int) (w : World) (hS : Sl 7 encSec P w v L) (hlen : L.length ≤ 1000000) (hf : findS L x = none) :
    Calls Tryz.prog 231 #[v, .int .i64 x] w fun e w' => e = .returned (.tuple #[.agg #[.int .i64 0, .int .i64 0, .int .i64 0, .int .i64 0, .int .i64 0, .int .i64 0, .bool false], .bool false]) ∧ Below w.heap.size w w' := by
  have hp : ¬ idxS L x < L.length := by
    rw [findS_idx] at hf
    have := List.getElem?_eq_none_iff.1 hf
    omega
  have H := Lib.hid (fun W ib hS' hi => idxSec_any P v L x ib W hS' hlen hi)
  have HS := Lib.hid hS
  have HP := Lib.hid hp
  clear hS hf hp hlen
  go_enter Tryz.func231, Tryz.ntmps231
  go_wp2_with fail
  refine (H.out _ _ ((HS.out.alloc _).alloc _) (by simp)).mono ?_
  rw [if_neg HP.out]
  rintro e w1 ⟨rfl, hb⟩
  obtain ⟨hc, hf⟩ := bcell hb
  have hz : w.heap.size + 1 < w1.heap.size := by have := hb.size; simp at this; omega
  go_wp2
  refine bodyPost_ret (v := .tuple #[.agg #[.int .i64 0, .int .i64 0, .int .i64 0, .int .i64 0, .int .i64 0, .int .i64 0, .bool false], .bool false]) (by simp [results, Tryz.results231, go_sem, hc, hz]) rfl ⟨rfl, bset7 (bup (bal (bal brefl _) _) hb) (by simp) _ _ _ _ _ _ _⟩
theorem find_yes (P : Nat → Prop) (v : Value) (L : List Sec) (x id un is ma ra ev : Int) (ix : Bool) (w : World) (hS : Sl 7 encSec P w v L) (hlen : L.length ≤ 1000000) (hf : findS L x = some ⟨id, un, is, ma, ra, ev, ix⟩) :
    Calls Tryz.prog 231 #[v, .int .i64 x] w fun e w' => e = .returned (.tuple #[.agg #[.int .i64 id, .int .i64 un, .int .i64 is, .int .i64 ma, .int .i64 ra, .int .i64 ev, .bool ix], .bool true]) ∧ Below w.heap.size w w' := by
  rw [findS_idx] at hf
  have hp : idxS L x < L.length := (List.getElem?_eq_some_iff.1 hf).1
  obtain ⟨ao, n, c, rfl, hn, hnc, hcm⟩ := hS.shape
  have H := Lib.hid (fun W ib hS' hi => idxSec_any P (.slice ao n c) L x ib W hS' hlen hi)
  obtain ⟨p, hpe⟩ : ∃ p, idxS L x = p := ⟨_, rfl⟩
  rw [hpe] at hf hp H
  have hpn : p < n := by omega
  have HS := Lib.hid hS
  have HP := Lib.hid hp
  have HF := Lib.hid hf
  obtain ⟨b, off, _, _, _, _, _, _, _, rfl, -, hb0, -⟩ := hS.sec hpn
  clear hf hp hlen hpe hn hS
  go_enter Tryz.func231, Tryz.ntmps231
  go_wp2_with fail
  refine (H.out _ _ ((HS.out.alloc _).alloc _) (by simp)).mono ?_
  rw [if_pos HP.out]
  rintro e w1 ⟨rfl, hb⟩
  obtain ⟨b', off', vid, vun, vis, vma, vra, vev, vix, he, -, hb', hL, k0, k1, k2, k3, k4, k5, k6⟩ := (((HS.out.alloc _).alloc _).below hb).sec hpn
  cases he
  rw [HF.out] at hL
  cases hL
  obtain ⟨hc, hf⟩ := bcell hb
  have hz : w.heap.size + 1 < w1.heap.size := by have := hb.size; simp at this; omega
  have hbo : ¬ b = w.heap.size + 1 := by omega
  go_wp2
  refine bodyPost_ret (v := .tuple #[.agg #[.int .i64 id, .int .i64 un, .int .i64 is, .int .i64 ma, .int .i64 ra, .int .i64 ev, .bool ix], .bool true]) (by simp [results, Tryz.results231, go_sem, hc, hz]) rfl ⟨rfl, bset7 (bup (bal (bal brefl _) _) hb) (by simp) _ _ _ _ _ _ _⟩
set_option maxHeartbeats 1000000 in
theorem place_any (P : Nat → Prop) (cb : Nat) (v : Value) (L : List Hold) (s h : Int) (w : World) (hv : w.cell? ⟨cb, 1, none⟩ = some v) (hS : Sl 3 encHold P w v L) (hsrt : srtH L) (hlen : L.length ≤ 1000000) :
    Calls Tryz.prog 287 #[.pointer (some ⟨cb, 0, none⟩), .agg #[.int .i64 s, .int .i64 h]] w fun e w' => e = .returned (.tuple #[.int .i64 (posH L s h), .bool (isH L s h)]) ∧ Below w.heap.size w w' := by
  have H := Lib.hid (fun W hS' => bsH_any P v L s h W hS' hsrt hlen)
  have HS := Lib.hid (hS.alloc (.cells #[.int .i64 s, .int .i64 h] 301))
  obtain ⟨p, hp⟩ : ∃ p, posH L s h = p := ⟨_, rfl⟩
  obtain ⟨b, hb⟩ : ∃ b, isH L s h = b := ⟨_, rfl⟩
  rw [hp, hb] at H
  rw [hp, hb]
  have hcl := World.block_lt_of_cell? w _ hv
  simp only at hcl
  have hv' : (w.alloc (.cells #[.int .i64 s, .int .i64 h] 301)).cell? ⟨cb, 1, none⟩ = some v := (World.cell?_alloc_past _ _ _ hcl).trans hv
  clear hS hp hb hsrt hlen
  go_enter Tryz.func287, Tryz.ntmps287
  go_wp2
  go_region_held3 (fun w' => w'.cell? ⟨cb, 1, none⟩ = some v ∧ w'.cell? ⟨w.heap.size, 0, none⟩ = some (.int .i64 s) ∧ w'.cell? ⟨w.heap.size, 1, none⟩ = some (.int .i64 h)) (first | (refine ⟨keepB hb1 ?_, keepB hb1 ?_, keepB hb1 ?_⟩ <;> first | assumption | (simp; done) | (simp [*]; done)) | go_keep) (first | (go_at_call 322; refine (H.out _ (HS.out.drewN 1)).mono ?_; rintro e w1 ⟨rfl, hb1⟩))
  go_wp2
  go_ret2
  exact ⟨rfl, bup (bdr (bal brefl _)) hb1⟩
theorem held_at {L : List Hold} {s h : Int} (hs : srtH L) : (isH L s h = true → ∃ a, L[posH L s h]? = some ⟨s, h, a⟩ ∧ heldH L s h = a) ∧ (isH L s h = false → heldH L s h = 0) := by
  rw [heldH_pos hs]
  unfold isH
  cases hq : L[posH L s h]? with
  | none => simp
  | some x =>
    obtain ⟨xs, xh, xa⟩ := x
    constructor
    · intro he
      obtain ⟨rfl, rfl⟩ := eqK_iff.1 he
      exact ⟨xa, rfl, by simp [he]⟩
    · intro he
      simp [he]
set_option maxHeartbeats 1000000 in
theorem held_any (P : Nat → Prop) (cb : Nat) (v : Value) (L : List Hold) (s h : Int) (w : World) (hv : w.cell? ⟨cb, 1, none⟩ = some v) (hS : Sl 3 encHold P w v L) (hsrt : srtH L) (hlen : L.length ≤ 1000000) :
    Calls Tryz.prog 242 #[.pointer (some ⟨cb, 0, none⟩), .int .i64 s, .int .i64 h] w fun e w' => e = .returned (.int .i64 (heldH L s h)) ∧ Below w.heap.size w w' := by
  have H := place_any P cb v L s h w hv hS hsrt hlen
  obtain ⟨hy, hn⟩ := held_at (s := s) (h := h) hsrt
  have hple := posH_le L s h
  obtain ⟨p, hp⟩ : ∃ p, posH L s h = p := ⟨_, rfl⟩
  obtain ⟨b, hb⟩ : ∃ b, isH L s h = b := ⟨_, rfl⟩
  rw [hp, hb] at H
  rw [hp] at hy hple
  rw [hb] at hy hn
  have HH := Lib.hid H
  cases b
  · rw [hn rfl]
    clear H hy hn hp hb hv hS hsrt
    go_enter Tryz.func242, Tryz.ntmps242
    go_wp2_with fail
    refine HH.out.mono ?_
    rintro e w1 ⟨rfl, hb1⟩
    go_wp2
    go_ret
    exact ⟨rfl, hb1⟩
  · obtain ⟨a, hL, ha⟩ := hy rfl
    rw [ha]
    obtain ⟨ao, n, c, rfl, hn', hnc, hcm⟩ := hS.shape
    have hpn : p < n := by have := (List.getElem?_eq_some_iff.1 hL).1; omega
    have HS := Lib.hid hS
    have HV := Lib.hid hv
    have HL := Lib.hid hL
    clear H hy hn hp hb hv hS hsrt ha hL hn'
    go_enter Tryz.func242, Tryz.ntmps242
    go_wp2_with fail
    refine HH.out.mono ?_
    rintro e w1 ⟨rfl, hb1⟩
    obtain ⟨b', off', vs, vh, va, he, -, hb', hL, k0, k1, k2⟩ := (HS.out.below hb1).hold hpn
    rw [HL.out] at hL
    cases hL
    subst he
    have hv1 := keepB hb1 HV.out
    go_wp2
    go_ret
    exact ⟨rfl, hb1⟩
end Go.Proofs.YthjaofgdickkaaaGreat
