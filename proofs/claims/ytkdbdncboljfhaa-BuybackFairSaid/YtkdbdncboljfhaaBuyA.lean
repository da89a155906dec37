/- Buyback: the small tests, the order of tenders; Check. Printed in part out of XAucA. -/
import Derived.Test.YtkdbdncboljfhaaFnTdr
import Derived.Test.YtkdbdncboljfhaaCloneT
import Derived.Test.YtkdbdncboljfhaaStTdrG
import Derived.Test.YtkdbdncboljfhaaOrA
import Derived.Test.YtkdbdncboljfhaaNum
import Derived.Deep.RegionHeld3
import Derived.Deep.QuietTactic
namespace Go.Proofs.Ytkdbdncboljfhaa
open Go.RowKit
set_option linter.unusedVariables false
set_option linter.unusedSimpArgs false
/-- a valid tender -/
structure TdrOk (x : Tdr) : Prop where
  h0 : 1 ≤ x.h
  h1 : x.h ≤ 1000
  n0 : 1 ≤ x.n
  n1 : x.n ≤ 40
  a0 : 1000 ≤ x.a
  a1 : x.a ≤ 1000000000
  am : x.a % 1000 = 0
  p0 : 1 ≤ x.p
  p1 : x.p ≤ 200000
/-- no two tenders have one key -/
def KeysT (L : List Tdr) : Prop := L.Pairwise fun x y => ¬ (x.h = y.h ∧ x.n = y.n)
theorem amongB_any (n lo hi : Int) (w : World) : Calls Try.prog 32 #[.int .i64 n, .int .i64 lo, .int .i64 hi] w fun e w' => e = .returned (.bool (inB n lo hi)) ∧ w = w' := by
  go_enter Try.func32, Try.ntmps32
  go_wp2
  all_goals (go_ret; exact ⟨ret_bool (by simp only [inB]; first | (rw [Bool.eq_iff_iff]; simp; omega) | (simp; omega)), rfl⟩)
theorem amongY_any (n lo hi : Int) (w : World) : Calls Try.prog 16 #[.int .i64 n, .int .i64 lo, .int .i64 hi] w fun e w' => e = .returned (.bool (inB n lo hi)) ∧ w = w' := by
  go_enter Try.func16, Try.ntmps16
  go_wp2
  all_goals (go_ret; exact ⟨ret_bool (by simp only [inB]; first | (rw [Bool.eq_iff_iff]; simp; omega) | (simp; omega)), rfl⟩)
theorem lots_any (n : Int) (w : World) (h0 : 1000 ≤ n) (h1 : n ≤ 1000000000) (hm : n % 1000 = 0) : Calls Try.prog 15 #[.int .i64 n] w fun e w' => e = .returned (.bool true) ∧ w = w' := by
  have ht : Int.tmod n 1000 = 0 := by rw [Int.tmod_eq_emod_of_nonneg (by omega)]; exact hm
  have hb : inB n 1000 1000000000 = true := inB_iff.2 ⟨h0, h1⟩
  go_enter Try.func15, Try.ntmps15
  go_wp2_with (go_at_call 32; refine (amongB_any _ _ _ _).mono ?_; rw [hb]; rintro e w' ⟨rfl, rfl⟩)
  go_ret
  exact ⟨ret_bool (by simp [ht]), rfl⟩
theorem tvalid_any (x : Tdr) (w : World) (h : TdrOk x) : Calls Try.prog 30 #[.agg #[.int .i64 x.h, .int .i64 x.n, .int .i64 x.p, .int .i64 x.a]] w fun e w' => e = .returned (.bool true) ∧ Below w.heap.size w w' := by
  obtain ⟨hh, nn, p, a⟩ := x
  obtain ⟨b0, b1, n0, n1, a0, a1, am, p0, p1⟩ := h
  simp only at b0 b1 n0 n1 a0 a1 am p0 p1 ⊢
  have K1 := Lib.hid (fun U => lots_any a U a0 a1 am)
  have hb1 := Lib.hid (show inB hh 1 1000 = true from inB_iff.2 ⟨b0, b1⟩)
  have hb2 := Lib.hid (show inB nn 1 40 = true from inB_iff.2 ⟨n0, n1⟩)
  have hp := Lib.hid (show inB p 1 200000 = true from inB_iff.2 ⟨p0, p1⟩)
  clear p0 p1
  go_enter Try.func30, Try.ntmps30
  go_wp2_with (first | (go_at_call 15; refine (K1.out _).mono ?_; rintro e w' ⟨rfl, rfl⟩) | (go_at_call 16; refine (amongY_any _ _ _ _).mono ?_; (first | rw [hp.out] | rw [hb1.out] | rw [hb2.out]); rintro e w' ⟨rfl, rfl⟩))
  go_ret
  exact ⟨ret_bool (by first | rfl | simp), bal brefl _⟩
theorem tcheck1_any (x : Tdr) (w : World) (h : TdrOk x) : Calls Try.prog 29 #[.agg #[.int .i64 x.h, .int .i64 x.n, .int .i64 x.p, .int .i64 x.a]] w fun e w' => e = .returned (.bool false) ∧ Below w.heap.size w w' := by
  have K := Lib.hid (fun U => tvalid_any x U h)
  obtain ⟨hh, nn, p, a⟩ := x
  clear h
  go_enter Try.func29, Try.ntmps29
  go_wp2_with fail
  refine (K.out _).mono ?_
  rintro e w1 ⟨rfl, hb1⟩
  go_wp2
  go_ret
  exact ⟨ret_bool (by first | rfl | simp), bup (bal brefl _) hb1⟩
theorem orL2_neg (p q : Int) : orL [p, q] < 0 ↔ p < 0 ∨ p = 0 ∧ q < 0 := by
  simp only [orL]
  by_cases h1 : p = 0
  · rw [if_pos h1]
    by_cases h2 : q = 0
    · rw [if_pos h2]; omega
    · rw [if_neg h2]; omega
  · rw [if_neg h1]; omega
theorem orL2_zero (p q : Int) : orL [p, q] = 0 ↔ p = 0 ∧ q = 0 := by
  simp only [orL]
  by_cases h1 : p = 0
  · rw [if_pos h1]
    by_cases h2 : q = 0
    · rw [if_pos h2]; omega
    · rw [if_neg h2]; omega
  · rw [if_neg h1]; omega
theorem sl2 {a b : Int} {w : World} {B : Nat} (h0 : w.cell? ⟨B, 0, none⟩ = some (.int .i64 a)) (h1 : w.cell? ⟨B, 1, none⟩ = some (.int .i64 b)) : Sl 1 encI (fun _ => True) w (.slice (some ⟨B, 0, none⟩) 2 2) [a, b] := by
  refine ⟨_, 2, 2, rfl, rfl, Nat.le_refl _, by unfold maxLen; omega, .inr ⟨B, 0, rfl, trivial, World.block_lt_of_cell? w _ h0, fun j x hj i u hi => ?_⟩⟩
  have hj4 : j < 2 := by have := (List.getElem?_eq_some_iff.1 hj).1; simpa using this
  have hi1 : i < 1 := by have := (List.getElem?_eq_some_iff.1 hi).1; simpa [encI] using this
  obtain rfl : i = 0 := by omega
  simp only [encI, List.getElem?_cons_zero, Option.some.injEq] at hi
  subst hi
  rcases (show j = 0 ∨ j = 1 by omega) with rfl | rfl
  · simp at hj; subst hj; simpa using h0
  · simp at hj; subst hj; simpa using h1
/-- the order of tenders, and of awards -/
def cmpT (x y : Tdr) : Int := orL [cmpI x.h y.h, cmpI x.n y.n]
theorem cmpT_neg (x y : Tdr) : cmpT x y < 0 ↔ x.h < y.h ∨ x.h = y.h ∧ x.n < y.n := by
  unfold cmpT
  rw [orL2_neg, cmpI_neg, cmpI_neg, cmpI_zero]
theorem cmpT_zero (x y : Tdr) : cmpT x y = 0 ↔ x.h = y.h ∧ x.n = y.n := by
  unfold cmpT
  rw [orL2_zero, cmpI_zero, cmpI_zero]
theorem cmpT_wk : Wk (ltz cmpT) := by
  constructor
  · intro x y h
    unfold ltz at h ⊢
    rw [decide_eq_true_iff, cmpT_neg] at h
    rw [decide_eq_false_iff_not, cmpT_neg]
    omega
  · intro x y z h1 h2
    unfold ltz at h1 h2 ⊢
    rw [decide_eq_false_iff_not, cmpT_neg] at h1 h2 ⊢
    omega
def cmpW (x y : Awd) : Int := orL [cmpI x.bd y.bd, cmpI x.num y.num]
theorem cmpW_neg (x y : Awd) : cmpW x y < 0 ↔ x.bd < y.bd ∨ x.bd = y.bd ∧ x.num < y.num := by
  unfold cmpW
  rw [orL2_neg, cmpI_neg, cmpI_neg, cmpI_zero]
theorem cmpW_zero (x y : Awd) : cmpW x y = 0 ↔ x.bd = y.bd ∧ x.num = y.num := by
  unfold cmpW
  rw [orL2_zero, cmpI_zero, cmpI_zero]
theorem cmpW_wk : Wk (ltz cmpW) := by
  constructor
  · intro x y h
    unfold ltz at h ⊢
    rw [decide_eq_true_iff, cmpW_neg] at h
    rw [decide_eq_false_iff_not, cmpW_neg]
    omega
  · intro x y z h1 h2
    unfold ltz at h1 h2 ⊢
    rw [decide_eq_false_iff_not, cmpW_neg] at h1 h2 ⊢
    omega
set_option maxHeartbeats 4000000 in
set_option maxRecDepth 100000 in
theorem tcompare_any (h n p a h' n' p' a' : Int) (w : World) :
    Calls Try.prog 31 #[.agg #[.int .i64 h, .int .i64 n, .int .i64 p, .int .i64 a], .agg #[.int .i64 h', .int .i64 n', .int .i64 p', .int .i64 a']] w fun e w' => e = .returned (.int .i64 (cmpT ⟨h, n, p, a⟩ ⟨h', n', p', a'⟩)) ∧ Below w.heap.size w w' := by
  obtain ⟨x1, hx1⟩ : ∃ x, cmpI h h' = x := ⟨_, rfl⟩
  obtain ⟨x2, hx2⟩ : ∃ x, cmpI n n' = x := ⟨_, rfl⟩
  have e := Lib.hid (show cmpT ⟨h, n, p, a⟩ ⟨h', n', p', a'⟩ = orL [x1, x2] by unfold cmpT; simp only [hx1, hx2])
  have HX1 := Lib.hid hx1
  have HX2 := Lib.hid hx2
  clear hx1 hx2
  go_enter Try.func31, Try.ntmps31
  go_wp2
  go_region_held3 (fun w' => w'.cell? ⟨w.heap.size, 0, none⟩ = some (.int .i64 h) ∧ w'.cell? ⟨w.heap.size, 1, none⟩ = some (.int .i64 n) ∧ w'.cell? ⟨w.heap.size + 1, 0, none⟩ = some (.int .i64 h') ∧ w'.cell? ⟨w.heap.size + 1, 1, none⟩ = some (.int .i64 n')) (first | go_keep) (first | (go_at_call 22; refine (compare_any _ _ _).mono ?_; (first | rw [HX1.out] | rw [HX2.out]); rintro e w' ⟨rfl, rfl⟩) | (go_at_call 27; refine (or_any (fun _ => True) _ [x1, x2] _ (sl2 ?_ ?_) (by simp)).mono ?_; (· exact (World.cell?_alloc_at _ _ _ _ (by simp)).trans rfl); (· exact (World.cell?_alloc_at _ _ _ _ (by simp)).trans rfl); rintro e w' ⟨rfl, rfl⟩))
  go_wp2
  go_ret
  exact ⟨ret_int e.out.symm, bal (bdr (bal (bal brefl _) _)) _⟩
set_option maxHeartbeats 4000000 in
set_option maxRecDepth 100000 in
theorem wcompare_any (bd num a p bd' num' a' p' : Int) (w : World) :
    Calls Try.prog 26 #[.agg #[.int .i64 bd, .int .i64 num, .int .i64 a, .int .i64 p], .agg #[.int .i64 bd', .int .i64 num', .int .i64 a', .int .i64 p']] w fun e w' => e = .returned (.int .i64 (cmpW ⟨bd, num, a, p⟩ ⟨bd', num', a', p'⟩)) ∧ Below w.heap.size w w' := by
  obtain ⟨x1, hx1⟩ : ∃ x, cmpI bd bd' = x := ⟨_, rfl⟩
  obtain ⟨x2, hx2⟩ : ∃ x, cmpI num num' = x := ⟨_, rfl⟩
  have e := Lib.hid (show cmpW ⟨bd, num, a, p⟩ ⟨bd', num', a', p'⟩ = orL [x1, x2] by unfold cmpW; simp only [hx1, hx2])
  have HX1 := Lib.hid hx1
  have HX2 := Lib.hid hx2
  clear hx1 hx2
  go_enter Try.func26, Try.ntmps26
  go_wp2
  go_region_held3 (fun w' => w'.cell? ⟨w.heap.size, 0, none⟩ = some (.int .i64 bd) ∧ w'.cell? ⟨w.heap.size, 1, none⟩ = some (.int .i64 num) ∧ w'.cell? ⟨w.heap.size + 1, 0, none⟩ = some (.int .i64 bd') ∧ w'.cell? ⟨w.heap.size + 1, 1, none⟩ = some (.int .i64 num')) (first | go_keep) (first | (go_at_call 22; refine (compare_any _ _ _).mono ?_; (first | rw [HX1.out] | rw [HX2.out]); rintro e w' ⟨rfl, rfl⟩) | (go_at_call 27; refine (or_any (fun _ => True) _ [x1, x2] _ (sl2 ?_ ?_) (by simp)).mono ?_; (· exact (World.cell?_alloc_at _ _ _ _ (by simp)).trans rfl); (· exact (World.cell?_alloc_at _ _ _ _ (by simp)).trans rfl); rintro e w' ⟨rfl, rfl⟩))
  go_wp2
  go_ret
  exact ⟨ret_int e.out.symm, bal (bdr (bal (bal brefl _) _)) _⟩
/-- the order of prices -/
def cmpQ (x y : Tdr) : Int := cmpI x.p y.p
theorem cmpQ_wk : Wk (ltz cmpQ) := by
  constructor
  · intro x y h
    unfold ltz cmpQ at h ⊢
    rw [decide_eq_true_iff, cmpI_neg] at h
    rw [decide_eq_false_iff_not, cmpI_neg]
    omega
  · intro x y z h1 h2
    unfold ltz cmpQ at h1 h2 ⊢
    rw [decide_eq_false_iff_not, cmpI_neg] at h1 h2 ⊢
    omega
theorem qcompare_any (h n p a h' n' p' a' : Int) (w : World) :
    Calls Try.prog 21 #[.agg #[.int .i64 h, .int .i64 n, .int .i64 p, .int .i64 a], .agg #[.int .i64 h', .int .i64 n', .int .i64 p', .int .i64 a']] w fun e w' => e = .returned (.int .i64 (cmpQ ⟨h, n, p, a⟩ ⟨h', n', p', a'⟩)) ∧ Below w.heap.size w w' := by
  obtain ⟨x1, hx1⟩ : ∃ x, cmpI p p' = x := ⟨_, rfl⟩
  have e := Lib.hid (show cmpQ ⟨h, n, p, a⟩ ⟨h', n', p', a'⟩ = x1 by unfold cmpQ; exact hx1)
  have HX1 := Lib.hid hx1
  clear hx1
  go_enter Try.func21, Try.ntmps21
  go_wp2_with fail
  refine (compare_any p p' _).mono ?_
  rw [HX1.out]
  rintro e w1 ⟨rfl, rfl⟩
  go_wp2
  go_ret
  exact ⟨ret_int e.out.symm, bal (bal brefl _) _⟩
theorem tmost_any (B : Nat) (most h n p a : Int) (w : World) (hB : w.cell? ⟨B, 0, none⟩ = some (.int .i64 most)) :
    Calls Try.prog 19 #[.agg #[.int .i64 h, .int .i64 n, .int .i64 p, .int .i64 a], .pointer (some ⟨B, 0, none⟩)] w fun e w' => e = .returned (.bool (decide (most < p))) ∧ Below w.heap.size w w' := by
  have hlt : B < w.heap.size := World.block_lt_of_cell? _ _ hB
  have hne : ¬ B = w.heap.size := by omega
  go_enter Try.func19, Try.ntmps19
  go_wp2
  go_ret
  exact ⟨ret_bool (by first | rfl | simp), bal brefl _⟩
/-- the tenders in order -/
def srT (L : List Tdr) : List Tdr := srt (ltz cmpT) L
theorem ordered_any (P : Nat → Prop) (v : Value) (L : List Tdr) (w : World) (hS : Sl 4 encTdr P w v L) (hlen : L.length ≤ 1000000) :
    Calls Try.prog 18 #[v] w (Copied 4 encTdr 28 (srT L) w) := by
  have eg : ∀ args w, (callFunc 31 args).run Try.prog w = .ok (.enter 31 args) w := enters_of Try.func31 (by kernel_rfl) rfl
  have KC := Lib.hid (cloneTdr_any P v L w hS hlen)
  have KS := Lib.hid (fun (U : World) (u : Value) (hb : w.heap.size ≤ U.heap.size) (ho : U.ownsRow w.heap.size 28 4 u L.length (flatE encTdr L)) =>
    sortTdr_own 31 #[] cmpT (fun _ => True) w.heap.size u L U eg (fun W _ x y _ _ => tcompare_any x.h x.n x.p x.a y.h y.n y.p y.a W) cmpT_wk (fun _ _ => trivial) hb ho (by omega))
  clear hS eg
  go_enter Try.func18, Try.ntmps18
  go_wp2_with fail
  refine KC.out.mono ?_
  rintro e w1 ⟨v1, rfl, ho1, hb1⟩
  have HB1 := Lib.hid hb1
  have HO1 := Lib.hid ho1
  have z1 := hb1.size
  clear ho1 hb1
  go_wp2_with fail
  refine (KS.out _ _ z1 HO1.out).mono ?_
  rintro e w2 ⟨rfl, ho2, hb2⟩
  go_wp2
  go_ret
  exact ⟨_, rfl, by unfold srT; rw [srt_length]; exact ho2, HB1.out.trans hb2⟩
theorem keysT_perm {A B : List Tdr} (p : A.Perm B) (h : KeysT B) : KeysT A :=
  (List.Perm.pairwise_iff (fun {x y} h e => h ⟨e.1.symm, e.2.symm⟩) p).2 h
theorem keysT_srT {L : List Tdr} (h : KeysT L) : KeysT (srT L) := keysT_perm (srt_perm L) h
theorem keysT_next {S : List Tdr} (h : KeysT S) {k : Nat} {x y : Tdr} (hx : S[k]? = some x) (hy : S[k + 1]? = some y) : cmpT x y ≠ 0 := by
  unfold KeysT at h
  rw [List.pairwise_iff_getElem] at h
  obtain ⟨h1, rfl⟩ := List.getElem?_eq_some_iff.1 hx
  obtain ⟨h2, rfl⟩ := List.getElem?_eq_some_iff.1 hy
  intro e
  rw [cmpT_zero] at e
  exact h k (k + 1) h1 h2 (by omega) e
set_option maxHeartbeats 8000000 in
set_option maxRecDepth 100000 in
theorem tcheck_any (P : Nat → Prop) (v : Value) (L : List Tdr) (w : World) (hS : Sl 4 encTdr P w v L) (hok : ∀ x ∈ L, TdrOk x) (hd : KeysT L) (hl : L.length ≤ 60) :
    Calls Try.prog 14 #[v] w fun e w' => e = .returned (.int .i64 0) ∧ Below w.heap.size w w' := by
  obtain ⟨ao, n, c, rfl, hn, -, -⟩ := hS.shape
  have eg : ∀ args w, (callFunc 29 args).run Try.prog w = .ok (.enter 29 args) w := enters_of Try.func29 (by kernel_rfl) rfl
  have KC := Lib.hid (cnfTdr_any P 29 #[] (fun _ => false) TdrOk _ L w eg (fun W hW x hx => tcheck1_any x W hx) hok hS (by omega))
  have hany : L.any (fun _ => false) = false := by simp
  rw [hany] at KC
  have KO := Lib.hid (fun (U : World) (hU : Below w.heap.size w U) => ordered_any P _ L U (hS.below hU) (by omega))
  have HK := Lib.hid (keysT_srT hd)
  have hSn : (srT L).length = n := by unfold srT; rw [srt_length]; exact hn
  obtain ⟨S, hSS⟩ : ∃ S, srT L = S := ⟨_, rfl⟩
  rw [hSS] at KO HK hSn
  have HSN := Lib.hid hSn
  have hn60 : n ≤ 60 := by omega
  have hn60z : ¬ (60 : Int) < (n : Int) := by omega
  clear hS hok hd hl hn hany eg hSS hSn
  go_enter Try.func14, Try.ntmps14
  go_wp2_with fail
  refine KC.out.mono ?_
  rintro e w1 ⟨rfl, hb1⟩
  have HB1 := Lib.hid hb1
  clear hb1
  go_wp2_with fail
  refine (KO.out _ HB1.out).mono ?_
  rintro e w2 ⟨v2, rfl, ho2, hb2⟩
  have hS2 : Sl 4 encTdr (fun _ => True) w2 v2 S := Sl.own encTdr_len ho2 rfl (fun _ _ => trivial)
  obtain ⟨sa, n', sc, rfl, hn', -, -⟩ := hS2.shape
  obtain rfl : n' = n := by have := HSN.out; omega
  have HS2 := Lib.hid hS2
  have HB2 := Lib.hid (bup HB1.out hb2)
  clear ho2 hb2 hS2 hn'
  go_wp2
  go_loopw [4] (fun iv wr => ∃ k : Nat, (k ≤ n' ∨ k = 1) ∧ 1 ≤ k ∧ iv = .int .i64 k ∧ Below w2.heap.size w2 wr) (fun iv _ => n' - (intOf iv).toNat)
  case atStart => exact ⟨1, by omega, by omega, rfl, brefl⟩
  case round =>
    obtain ⟨k, hk, hk1, rfl, hbr⟩ := hrel
    have zr := hbr.size
    by_cases hlt : k < n'
    · obtain ⟨k, rfl⟩ : ∃ j, k = j + 1 := ⟨k - 1, by omega⟩
      obtain ⟨bb, off, x0, x1, x2, x3, rfl, -, hbb, hx, a0, a1, a2, a3⟩ := (HS2.out.below hbr).tdr (k := k) (by omega)
      obtain ⟨bb', off', y0, y1, y2, y3, hE, -, hbb', hy, c0, c1, c2, c3⟩ := (HS2.out.below hbr).tdr hlt
      cases hE
      have hne := keysT_next HK.out hx hy
      have hkz : ((k + 1 : Nat) : Int) < (n' : Int) := by omega
      have hw1 : wrap64 (((k + 1 : Nat) : Int) - 1) = (k : Int) := by rw [show ((k + 1 : Nat) : Int) - 1 = (k : Int) by omega]; exact IntWalk.wrap64_in _ (by omega)
      have HW1 := Lib.hid hw1
      obtain ⟨V, hV⟩ : ∃ V, cmpT ⟨x0, x1, x2, x3⟩ ⟨y0, y1, y2, y3⟩ = V := ⟨_, rfl⟩
      have KV := Lib.hid (fun U => tcompare_any x0 x1 x2 x3 y0 y1 y2 y3 U)
      rw [hV] at KV hne
      have ua0 := up_cell a0
      have ua1 := up_cell a1
      have ua2 := up_cell a2
      have ua3 := up_cell a3
      have uc0 := up_cell c0
      have uc1 := up_cell c1
      have uc2 := up_cell c2
      have uc3 := up_cell c3
      have HBR := Lib.hid hbr
      have hkz2 : (k : Int) < (n' : Int) := by omega
      have hkz0 : 0 ≤ (k : Int) := by omega
      have hne2 : (V == 0) = false := by simpa using hne
      clear hx hy hV hbr a0 a1 a2 a3 c0 c1 c2 c3 hw1
      go_upto_region 9 with fail
      have hw1 := HW1.out
      clear HW1
      (refine wp_region_up (by kernel_rfl) (by kernel_rfl) ?_); (repeat (go_big_quiet_step (((go_at_call 31; refine (KV.out _).mono ?_; exact fun _ _ hh => ⟨hh.1, ⟨_, bup (Subtype.property _) hh.2⟩, rfl⟩))))); (refine wpQuiet_nil ?_); (rintro w3 ⟨⟨_, hb3⟩, rfl⟩)
      have HB3 := Lib.hid (bup HBR.out hb3)
      clear hb3 hw1
      go_wp2
      go_roundw
      case rel => exact ⟨k + 1 + 1, by omega, by omega, by go_num, HB3.out⟩
      case measure => simp [intOf]; omega
    · clear KC KO
      go_wp2
      go_ret
      exact ⟨rfl, bup HB2.out hbr⟩
end Go.Proofs.Ytkdbdncboljfhaa
