/- Right registers stay right; holdings are told by what is held. No program in sight. Transfers there and back, in plain lists. the reference's register: Same, at equal registers. What a move does to what is held, in plain lists. treasurylaw38.market: the register of one security, plain. What is outstanding is what was issued less what was redeemed, in plain lists. The holdings of a day are those that the moves until then have made, in plain lists. the reference's register: Held, Outstanding, Debt, At; register.Find. Contracts of coupon's check, Coupon, Last, Accrued. coupon's plain closures: a coupon, an amount. coupon's add: a coupon or a principal that is not 0 is appended.  slices.Contains at numbers. The contract of coupon's Days. coupon.Of, for closures that tell an amount each; coupon.plain.  buyback.Saved. BuybackSaves in plain numbers. Contracts of the source of numbers: N, Pick, Range, New. The contract of Src.Security. Src.Deal: what it may do with a register.  the reference's register: Add.  Registers of the source: what holds of them; Add at a world behind a step of the source. A region that draws its order of evaluation, by an invariant on what has been carried out (XFlow's way, without a fence). treasurylaw38.market: its first drawn region, by what has been carried out. treasurylaw38.market: the walk.  Contracts of the reference's Coupon. The reference of layer 34: Days alone. The structs of the program as Lean structures: their cells, their reading out of a slice.  A row of structs that is the call's own, and turned in place: elements of any size. Stable sorting of lists, in plain: merging, sorting by insertion, what a merge of parts is. Stable sorting in place: plain lists, for elements of any type. Striking elements of a list in place. No program in sight. -/
import Derived.Test.YthjaofgdickkaaaGreatRefH
import Derived.Test.YthjaofgdickkaaaGreatUp
import Derived.Test.YthjaofgdickkaaaGreatRefJ
import Derived.Test.YthjaofgdickkaaaGreatSec
import Derived.Test.YthjaofgdickkaaaGreatSl
import Derived.Deep.DeepMust
import Derived.Test.YthjaofgdickkaaaGreatNum
import Derived.Lib.Hide
import Derived.Deep.QuietTactic
import Derived.BigQuiet
import Derived.Deep.RegionHeld3
import Derived.Test.YthjaofgdickkaaaGreatV1
import Derived.Test.YthjaofgdickkaaaGreatRefL4
import Derived.Test.YthjaofgdickkaaaGreatRow
import Derived.Deep.RegionWith
import Derived.Test.YthjaofgdickkaaaGreatR33Sec
import Derived.Laws.OwnMore
import Derived.Test.YthjaofgdickkaaaGreatOwn
namespace Go.Proofs.YthjaofgdickkaaaGreat
open Go.RowKit
set_option linter.unusedVariables false
set_option linter.unusedSimpArgs false
theorem repl_snoc {secs : List Sec} {m : Mv} : ∀ {ms : List Mv} {n d : Int} {hs : List Hold} {N D : Int} {H : List Hold}, repl secs wantAll ms n d hs = (true, N, D, H) → stepB secs N D H m = true → repl secs wantAll (ms ++ [m]) n d hs = (true, N + 1, m.day, mvH H m)
  | [], n, d, hs, N, D, H, h, hs1 => by
    simp only [repl, Prod.mk.injEq, true_and] at h
    obtain ⟨rfl, rfl, rfl⟩ := h
    simp only [List.nil_append, repl, wantAll, if_true]
    rw [if_pos hs1]
  | x :: ms, n, d, hs, N, D, H, h, hs1 => by
    simp only [List.cons_append, repl, wantAll, if_true] at h ⊢
    split at h
    · rename_i hq
      rw [if_pos hq]
      exact repl_snoc h hs1
    · simp at h
theorem rmE_zero {R : Reg} {m : Mv} (h : rmE R m = 0) : RgOk R ∧ R.ms.length ≠ 400 ∧ MvOk R.secs R.hs (rgDay R) (numbered R m) := by
  unfold rmE at h
  by_cases h0 : chkE R = 0
  · rw [if_pos h0] at h
    by_cases h1 : R.ms.length = 400
    · rw [if_pos h1] at h; omega
    · rw [if_neg h1] at h
      exact ⟨chkE_iff.1 h0, h1, mvOk_iff.1 h⟩
  · rw [if_neg h0] at h; exact absurd h h0
theorem rmR_ok {R : Reg} {m : Mv} (h : rmE R m = 0) : rmR R m = ⟨R.secs, mvH R.hs (numbered R m), R.ms ++ [numbered R m]⟩ := by unfold rmR; rw [if_pos h]
theorem RgOk.move {R : Reg} {m : Mv} (hE : rmE R m = 0) (hk : 1 ≤ m.kind ∧ m.kind ≤ 3) : RgOk (rmR R m) ∧ rgDay (rmR R m) = m.day := by
  obtain ⟨h, hl, hm⟩ := rmE_zero hE
  rw [rmR_ok hE]
  have h1 := repl_snoc h.made (stepB_iff.2 ⟨rfl, hk, hm⟩ : stepB R.secs (R.ms.length : Int) (rgDay R) R.hs (numbered R m) = true)
  have hlm := h.lm
  refine ⟨⟨h.ls, ?_, h.secs, ?_, ?_⟩, ?_⟩
  · simp only [List.length_append, List.length_cons, List.length_nil]; omega
  · simp only; rw [h1]
  · simp only; rw [h1]
  · unfold rgDay; simp only; rw [h1]; rfl
theorem chkE_move {R : Reg} {m : Mv} (hE : rmE R m = 0) (hk : 1 ≤ m.kind ∧ m.kind ≤ 3) : chkE (rmR R m) = 0 := chkE_iff.2 (RgOk.move hE hk).1
theorem secsB_ins : ∀ {L : List Sec} {p : Int} {x : Sec}, secsB p L = true → p < x.id → secOk x = true → isS L x.id = false → secsB p (L.take (posS L x.id) ++ x :: L.drop (posS L x.id)) = true
  | [], p, x, _, hp, hx, _ => by simp [secsB, hp, hx, posS]
  | y :: L, p, x, h, hp, hx, hi => by
    simp only [secsB, Bool.and_eq_true, decide_eq_true_eq] at h
    by_cases h1 : y.id < x.id
    · have hi2 : isS L x.id = false := by
        unfold isS at hi ⊢
        simp only [posS] at hi
        rw [if_pos h1] at hi
        simpa using hi
      have ih := secsB_ins h.2.2 h1 hx hi2
      simp only [posS]
      rw [if_pos h1]
      simp only [List.take_succ_cons, List.drop_succ_cons, List.cons_append, secsB, Bool.and_eq_true, decide_eq_true_eq]
      exact ⟨h.1, h.2.1, ih⟩
    · have h2 : y.id ≠ x.id := by
        intro e
        unfold isS at hi
        simp only [posS] at hi
        rw [if_neg h1] at hi
        simp [e] at hi
      simp only [posS]
      rw [if_neg h1]
      simp only [List.take_zero, List.drop_zero, List.nil_append, secsB, Bool.and_eq_true, decide_eq_true_eq]
      exact ⟨hx, hp, h.1, by omega, h.2.2⟩
theorem raE_zero {R : Reg} {x : Sec} (h : raE R x = 0) : RgOk R ∧ secOk x = true ∧ isS R.secs x.id = false ∧ R.secs.length ≠ 20 := by
  unfold raE at h
  by_cases h0 : chkE R = 0
  · rw [if_pos h0] at h
    by_cases h1 : secOk x = true ∧ isS R.secs x.id = false
    · rw [if_pos h1] at h
      by_cases h2 : R.secs.length = 20
      · rw [if_pos h2] at h; omega
      · exact ⟨chkE_iff.1 h0, h1.1, h1.2, h2⟩
    · rw [if_neg h1] at h; omega
  · rw [if_neg h0] at h; exact absurd h h0
theorem raR_ok {R : Reg} {x : Sec} (h : raE R x = 0) : raR R x = ⟨R.secs.take (posS R.secs x.id) ++ x :: R.secs.drop (posS R.secs x.id), R.hs, R.ms⟩ := by unfold raR; rw [if_pos h]
theorem RgOk.add {R : Reg} {x : Sec} (hE : raE R x = 0) (hm : R.ms = []) : RgOk (raR R x) ∧ (raR R x).ms = [] := by
  obtain ⟨h, hx, hi, hl⟩ := raE_zero hE
  rw [raR_ok hE]
  have h1 := h.ls
  have h2 := h.hs
  rw [hm] at h2
  have hp := posS_le R.secs x.id
  refine ⟨⟨?_, h.lm, secsB_ins h.secs (by have := secOk_id hx; omega) hx hi, ?_, ?_⟩, hm⟩
  · simp only [List.length_append, List.length_cons, List.length_take, List.length_drop]; omega
  · simp only; rw [hm]; rfl
  · simp only; rw [hm]; exact h2
theorem RgOk.nil : RgOk ⟨[], [], []⟩ := ⟨by simp, by simp, rfl, rfl, rfl⟩
theorem heldH_cons (x : Hold) (L : List Hold) (s h : Int) : heldH (x :: L) s h = if x.s = s ∧ x.h = h then x.a else heldH L s h := by
  simp only [heldH, eqK]
  by_cases hq : x.s = s ∧ x.h = h
  · simp [hq]
  · simp [hq]
/-- holdings are told by what is held -/
theorem hs_ext : ∀ {L M : List Hold}, srtH L → srtH M → (∀ x ∈ L, 0 < x.a) → (∀ x ∈ M, 0 < x.a) → (∀ s h, heldH L s h = heldH M s h) → L = M
  | [], [], _, _, _, _, _ => rfl
  | [], y :: M, _, _, _, hp, he => by
    have := he y.s y.h
    have h1 := hp y (List.mem_cons_self ..)
    simp [heldH, eqK] at this; omega
  | x :: L, [], _, _, hp, _, he => by
    have := he x.s x.h
    have h1 := hp x (List.mem_cons_self ..)
    simp [heldH, eqK] at this; omega
  | x :: L, y :: M, hs, ht, hp, hq, he => by
    have px := hp x (List.mem_cons_self ..)
    have py := hq y (List.mem_cons_self ..)
    have sx := srtH_head hs
    have sy := srtH_head ht
    have ex := he x.s x.h
    have ey := he y.s y.h
    have nL : ∀ s h, (s < x.s ∨ (s = x.s ∧ h ≤ x.h)) → heldH L s h = 0 := fun s h hk => heldH_out (fun z hz e => by have := sx z hz; omega)
    have nM : ∀ s h, (s < y.s ∨ (s = y.s ∧ h ≤ y.h)) → heldH M s h = 0 := fun s h hk => heldH_out (fun z hz e => by have := sy z hz; omega)
    rw [heldH_cons, heldH_cons] at ex ey
    by_cases hk : x.s = y.s ∧ x.h = y.h
    · rw [if_pos ⟨rfl, rfl⟩, if_pos ⟨hk.1.symm, hk.2.symm⟩] at ex
      have hxy : x = y := by
        obtain ⟨a, b, c⟩ := x
        obtain ⟨a', b', c'⟩ := y
        simp only at hk ex
        rw [hk.1, hk.2, ex]
      subst hxy
      refine congrArg (x :: ·) (hs_ext (srtH_tail hs) (srtH_tail ht) (fun z hz => hp z (List.mem_cons_of_mem _ hz)) (fun z hz => hq z (List.mem_cons_of_mem _ hz)) fun s h => ?_)
      by_cases hq : x.s = s ∧ x.h = h
      · rw [nL s h (by omega), nM s h (by omega)]
      · have := he s h
        rw [heldH_cons, heldH_cons, if_neg hq, if_neg hq] at this
        exact this
    · exfalso
      by_cases hlt : x.s < y.s ∨ (x.s = y.s ∧ x.h < y.h)
      · rw [if_pos ⟨rfl, rfl⟩, if_neg (by omega), nM _ _ (by omega)] at ex
        omega
      · rw [if_neg (by omega), if_pos ⟨rfl, rfl⟩, nL _ _ (by omega)] at ey
        omega
theorem HsOk.ext {L M : List Hold} (hL : HsOk L) (hM : HsOk M) (h : ∀ s h, heldH L s h = heldH M s h) : L = M := hs_ext hL.srt hM.srt hL.pos hM.pos h
theorem mvE_vals (secs : List Sec) (hs : List Hold) (d : Int) (m : Mv) : mvE secs hs d m ≠ 78 ∧ mvE secs hs d m ≠ 3 := by
  unfold mvE mvE1
  constructor <;> (repeat' split) <;> omega
theorem mvH_both {hs : List Hold} {m : Mv} (hf : m.f ≠ 0) (ht : m.t ≠ 0) : mvH hs m = addH (addH hs m.s m.f (-m.a)) m.s m.t m.a := by
  unfold mvH addZ
  rw [if_neg ht, if_neg hf]
theorem rmE_vals {R : Reg} {m : Mv} (h : RgOk R) (hl : R.ms.length ≠ 400) : rmE R m ≠ 78 ∧ rmE R m ≠ 3 := by
  unfold rmE
  rw [if_pos (chkE_iff.2 h), if_neg hl]
  exact mvE_vals _ _ _ _
/-- a transfer there and back -/
structure There (R : Reg) (day id a b n : Int) : Prop where
  back : rmE (rmR R ⟨0, day, 2, id, a, b, n⟩) ⟨0, day, 2, id, b, a, n⟩ = 0
  same : (rmR (rmR R ⟨0, day, 2, id, a, b, n⟩) ⟨0, day, 2, id, b, a, n⟩).hs = R.hs
  froms : rgHeld (rmR R ⟨0, day, 2, id, a, b, n⟩) id a = rgHeld R id a - n
  tos : rgHeld (rmR R ⟨0, day, 2, id, a, b, n⟩) id b = rgHeld R id b + n
  debt : rgDebt (rmR R ⟨0, day, 2, id, a, b, n⟩) = rgDebt R
  ok : RgOk (rmR R ⟨0, day, 2, id, a, b, n⟩)
  bd : 0 ≤ rgHeld R id a ∧ rgHeld R id a ≤ 1000000000000 ∧ 0 ≤ rgHeld R id b ∧ rgHeld R id b ≤ 1000000000000
  ok2 : RgOk (rmR (rmR R ⟨0, day, 2, id, a, b, n⟩) ⟨0, day, 2, id, b, a, n⟩)
theorem held_le_max {L : List Hold} (h : HsOk L) (s x : Int) : 0 ≤ heldH L s x ∧ heldH L s x ≤ 1000000000000 := ⟨heldH_nonneg h.pos s x, heldH_le h s x⟩
theorem there_back {R : Reg} {day id a b n : Int} (h : RgOk R) (hl : R.ms.length ≤ 100) (ha : 1 ≤ a ∧ a ≤ 4) (hb : 1 ≤ b ∧ b ≤ 4) (hE : rmE R ⟨0, day, 2, id, a, b, n⟩ = 0) : There R day id a b n := by
  obtain ⟨-, -, hm⟩ := rmE_zero hE
  obtain ⟨hX, hdX⟩ := RgOk.move hE (by simp)
  have hr := rmR_ok hE
  have hA : rgHeld R id a = heldH R.hs id a := by unfold rgHeld; rw [if_pos (chkE_iff.2 h)]
  have hB : rgHeld R id b = heldH R.hs id b := by unfold rgHeld; rw [if_pos (chkE_iff.2 h)]
  have hD : rgDebt R = sumH R.hs := by unfold rgDebt; rw [if_pos (chkE_iff.2 h)]
  have hXA : ∀ x, rgHeld (rmR R ⟨0, day, 2, id, a, b, n⟩) id x = heldH (rmR R ⟨0, day, 2, id, a, b, n⟩).hs id x := fun x => by unfold rgHeld; rw [if_pos (chkE_iff.2 hX)]
  have hXD : rgDebt (rmR R ⟨0, day, 2, id, a, b, n⟩) = sumH (rmR R ⟨0, day, 2, id, a, b, n⟩).hs := by unfold rgDebt; rw [if_pos (chkE_iff.2 hX)]
  have hab : a ≠ b := by
    have := hm.st
    simp only [numbered, strangeB] at this
    intro e
    subst e
    simp at this
  have hH : (rmR R ⟨0, day, 2, id, a, b, n⟩).hs = addH (addH R.hs id a (-n)) id b n := by
    rw [hr]
    exact mvH_both (m := numbered R ⟨0, day, 2, id, a, b, n⟩) (by show a ≠ 0; omega) (by show b ≠ 0; omega)
  have hso := h.hok
  have s1 := addH_srt (s := id) (h := a) (-n) hso.srt
  have s2 := addH_srt (s := id) (h := b) n s1
  have held2 : ∀ s x, heldH (addH (addH R.hs id a (-n)) id b n) s x = heldH R.hs s x + (if id = s ∧ a = x then -n else 0) + (if id = s ∧ b = x then n else 0) := fun s x => by
    rw [addH_held n s x s1, addH_held (-n) s x hso.srt]
  have hsecs : (rmR R ⟨0, day, 2, id, a, b, n⟩).secs = R.secs := by rw [hr]
  have hms : (rmR R ⟨0, day, 2, id, a, b, n⟩).ms.length = R.ms.length + 1 := by rw [hr]; simp
  have hback : rmE (rmR R ⟨0, day, 2, id, a, b, n⟩) ⟨0, day, 2, id, b, a, n⟩ = 0 := by
    unfold rmE
    rw [if_pos (chkE_iff.2 hX), if_neg (by omega)]
    refine mvOk_iff.2 ⟨hm.a0, hm.a1, ?_, ?_, ?_, ?_⟩
    · have := hm.st
      simp only [numbered, strangeB] at this ⊢
      simp only [Int.reduceEq, if_false, if_true, Bool.or_eq_false_iff, Bool.not_eq_false'] at this ⊢
      refine ⟨⟨this.1.2, this.1.1⟩, ?_⟩
      simp; omega
    · intro _
      simp only [numbered]
      rw [hH, held2, if_neg (by omega), if_pos ⟨rfl, rfl⟩]
      have := (held_le_max hso id b).1
      omega
    · intro h0
      simp only [numbered] at h0
      omega
    · obtain ⟨s, f1, f2, f3, f4⟩ := hm.fi
      refine ⟨s, by rw [hsecs]; exact f1, f2, ?_, f4⟩
      rw [hdX]
      simp only [numbered] at f3 ⊢
      omega
  obtain ⟨hY, -⟩ := RgOk.move hback (by simp)
  have hr2 := rmR_ok hback
  refine ⟨hback, ?_, ?_, ?_, ?_, hX, ⟨?_, ?_, ?_, ?_⟩, hY⟩
  · refine HsOk.ext hY.hok hso fun s x => ?_
    have hH2 : (rmR (rmR R ⟨0, day, 2, id, a, b, n⟩) ⟨0, day, 2, id, b, a, n⟩).hs = addH (addH (rmR R ⟨0, day, 2, id, a, b, n⟩).hs id b (-n)) id a n := by
      rw [hr2]
      exact mvH_both (m := numbered (rmR R ⟨0, day, 2, id, a, b, n⟩) ⟨0, day, 2, id, b, a, n⟩) (by show b ≠ 0; omega) (by show a ≠ 0; omega)
    rw [hH2, hH, addH_held n s x (addH_srt _ s2), addH_held (-n) s x s2, held2]
    by_cases q1 : id = s ∧ a = x <;> by_cases q2 : id = s ∧ b = x <;> simp only [q1, q2, and_self, if_true, if_false] <;> omega
  · rw [hXA, hH, held2, hA, if_pos ⟨rfl, rfl⟩, if_neg (by omega)]; omega
  · rw [hXA, hH, held2, hB, if_neg (by omega), if_pos ⟨rfl, rfl⟩]; omega
  · rw [hXD, hH, addH_sum, addH_sum, hD]; omega
  · rw [hA]; exact (held_le_max hso id a).1
  · rw [hA]; exact (held_le_max hso id a).2
  · rw [hB]; exact (held_le_max hso id b).1
  · rw [hB]; exact (held_le_max hso id b).2
theorem eqHs_self (L : List Hold) : eqHs L L = true := eqHs_iff.2 rfl
set_option maxHeartbeats 4000000 in
set_option maxRecDepth 100000 in
theorem fsame_eq (P P' : Nat → Prop) (vs vh vm us uh um : Value) (R : Reg) (w : World) (h : RgIn P w vs vh vm R) (h' : RgIn P' w us uh um R) (hS : R.secs.length ≤ 1000000) (hH : R.hs.length ≤ 1000000) (hM : R.ms.length ≤ 1000000) :
    Calls Tryz.prog 103 #[.agg #[vs, vh, vm], .agg #[us, uh, um]] w fun e w' => e = .returned (.bool true) ∧ Below w.heap.size w w' := by
  obtain ⟨a0, n0, c0, rfl, hn0, -, -⟩ := h.S.shape
  obtain ⟨a1, n1, c1, rfl, hn1, -, -⟩ := h.H.shape
  obtain ⟨a2, n2, c2, rfl, hn2, -, -⟩ := h.M.shape
  obtain ⟨b0, m0, d0, rfl, hm0, -, -⟩ := h'.S.shape
  obtain ⟨b1, m1, d1, rfl, hm1, -, -⟩ := h'.H.shape
  obtain ⟨b2, m2, d2, rfl, hm2, -, -⟩ := h'.M.shape
  obtain rfl : n0 = m0 := by omega
  obtain rfl : n1 = m1 := by omega
  obtain rfl : n2 = m2 := by omega
  have l0 : n0 ≤ 1000000 := by omega
  have l2 : n2 ≤ 1000000 := by omega
  have H := Lib.hid h
  have H' := Lib.hid h'
  clear h h' hn0 hn1 hn2 hm0 hm1 hm2 hS hM
  go_enter Tryz.func103, Tryz.ntmps103
  go_wp2_with fail
  refine (fhold_any P P' _ _ R.hs R.hs _ (H.out.H.below (bal (bal brefl _) _)) (H'.out.H.below (bal (bal brefl _) _)) hH).mono ?_
  rw [eqHs_self]
  rintro e w1 ⟨rfl, nq, rfl⟩
  go_wp2
  obtain ⟨W, hW⟩ : ∃ W, W = ((w.alloc (.cells #[.slice a0 n0 c0, .slice a1 n1 c1, .slice a2 n2 c2] 31)).alloc (.cells #[.slice b0 n0 d0, .slice b1 n1 d1, .slice b2 n2 d2] 31)).drewN nq := ⟨_, rfl⟩
  have hb : Below w.heap.size w W := by rw [hW]; exact below_drewZ (bal (bal brefl _) _) nq
  have zW : W.heap.size = w.heap.size + 2 := by rw [hW]; simp
  have k0 : W.cell? ⟨w.heap.size, 0, none⟩ = some (.slice a0 n0 c0) := by rw [hW]; exact keepA ((World.cell?_alloc_at _ _ _ _ rfl).trans rfl)
  have k2 : W.cell? ⟨w.heap.size, 2, none⟩ = some (.slice a2 n2 c2) := by rw [hW]; exact keepA ((World.cell?_alloc_at _ _ _ _ rfl).trans rfl)
  have j0 : W.cell? ⟨w.heap.size + 1, 0, none⟩ = some (.slice b0 n0 d0) := by rw [hW]; exact (World.cell?_alloc_at _ _ _ _ (by simp)).trans rfl
  have j2 : W.cell? ⟨w.heap.size + 1, 2, none⟩ = some (.slice b2 n2 d2) := by rw [hW]; exact (World.cell?_alloc_at _ _ _ _ (by simp)).trans rfl
  have HW := Lib.hid hW
  have HB := Lib.hid hb
  have HS := Lib.hid (H.out.below hb)
  have HS' := Lib.hid (H'.out.below hb)
  clear hW hb
  go_loopw [34] (fun iv wr => ∃ (k nq : Nat), k ≤ n0 ∧ iv = .int .i64 k ∧ wr = W.drewN nq) (fun iv _ => n0 - (intOf iv).toNat)
  case atStart => exact ⟨0, 0, by omega, rfl, by rw [HW.out]; rfl⟩
  case round =>
    obtain ⟨k, nq2, hk, rfl, rfl⟩ := hrel
    by_cases hlt : k < n0
    · obtain ⟨b, off, vid, vun, vis, vma, vra, vev, vix, rfl, -, -, hL, e0, e1, e2, e3, e4, e5, e6⟩ := HS.out.S.sec hlt
      obtain ⟨b', off', vid', vun', vis', vma', vra', vev', vix', rfl, -, -, hL', f0, f1, f2, f3, f4, f5, f6⟩ := HS'.out.S.sec hlt
      rw [hL] at hL'
      cases hL'
      clear hL
      have hkn : (k : Int) < n0 := by omega
      go_wp2
      go_quiet (fail)
      go_wp2
      go_roundw
      case rel => exact ⟨k + 1, _, by omega, by go_num, rfl⟩
      case measure => simp [intOf]; omega
    · go_wp2
      go_loopw [52] (fun iv wr => ∃ (k nq : Nat), k ≤ n2 ∧ iv = .int .i64 k ∧ wr = W.drewN nq) (fun iv _ => n2 - (intOf iv).toNat)
      case atStart => exact ⟨0, nq2, by omega, rfl, rfl⟩
      case round =>
        obtain ⟨j, nq3, hj, rfl, rfl⟩ := hrel
        by_cases hlt2 : j < n2
        · obtain ⟨b, off, x0, x1, x2, x3, x4, x5, x6, rfl, -, -, hL, e0, e1, e2, e3, e4, e5, e6⟩ := HS.out.M.mv hlt2
          obtain ⟨b', off', y0, y1, y2, y3, y4, y5, y6, rfl, -, -, hL', f0, f1, f2, f3, f4, f5, f6⟩ := HS'.out.M.mv hlt2
          rw [hL] at hL'
          cases hL'
          clear hL
          have hkn : (j : Int) < n2 := by omega
          go_wp2
          go_quiet (fail)
          go_wp2
          go_roundw
          case rel => exact ⟨j + 1, _, by omega, by go_num, rfl⟩
          case measure => simp [intOf]; omega
        · go_wp2
          go_ret
          exact ⟨rfl, below_drewZ HB.out _⟩
theorem up_prop {w : World} (x : Up w) : Below w.heap.size w x.1 := x.2
theorem strange_ft {m : Mv} (hk : 1 ≤ m.kind ∧ m.kind ≤ 3) (h : strangeB m = false) : m.f ≠ m.t := by
  unfold strangeB at h
  by_cases h1 : m.kind = 1
  · rw [if_pos h1, Bool.or_eq_false_iff] at h
    have a1 : m.f = 0 := by simpa using h.1
    have a2 := inB_iff.1 (by simpa using h.2 : inB m.t 1 1000 = true)
    omega
  · rw [if_neg h1] at h
    by_cases h2 : m.kind = 2
    · rw [if_pos h2, Bool.or_eq_false_iff] at h
      simpa using h.2
    · rw [if_neg h2, Bool.or_eq_false_iff] at h
      have a1 : m.t = 0 := by simpa using h.2
      have a2 := inB_iff.1 (by simpa using h.1 : inB m.f 1 1000 = true)
      omega
theorem moved_held {R : Reg} {m : Mv} (hE : rmE R m = 0) (hk : 1 ≤ m.kind ∧ m.kind ≤ 3) (i h : Int) (hh : 1 ≤ h) :
    rgHeld (rmR R m) i h = rgHeld R i h + (if m.s = i ∧ m.f = h then -m.a else 0) + (if m.s = i ∧ m.t = h then m.a else 0) := by
  obtain ⟨hok, -, hm⟩ := rmE_zero hE
  have hX := (RgOk.move hE hk).1
  have hr := rmR_ok hE
  unfold rgHeld
  rw [if_pos (chkE_iff.2 hok), if_pos (chkE_iff.2 hX), hr]
  have a0 := hm.a0
  have hso := hsOk_sub hok.hok (s := (numbered R m).s) (f := (numbered R m).f) (a := (numbered R m).a) (by omega) hm.he
  simp only [mvH]
  rw [addZ_held hso.srt _ _ _ _ _ (by omega), addZ_held hok.hok.srt _ _ _ _ _ (by omega)]
  rfl
theorem held_bd {R : Reg} (h : RgOk R) (i x : Int) : 0 ≤ rgHeld R i x ∧ rgHeld R i x ≤ 1000000000000 := by
  unfold rgHeld
  rw [if_pos (chkE_iff.2 h)]
  exact held_le_max h.hok i x
def m38S (un ra : Int) : Sec := ⟨1, un, 0, 1800, ra, 6, false⟩
def UnR38 (un ra : Int) : Prop := un ∈ ([1, 10, 100, 1000] : List Int) ∧ ra ∈ ([1000, 5000] : List Int)
def eHs : List Int → Int → List Hold
  | [], _ => []
  | q :: L, h => ⟨1, h, 1000 * q⟩ :: eHs L (h + 1)
def eMs : List Int → Int → List Mv
  | [], _ => []
  | q :: L, h => ⟨h, 0, 1, 1, 0, h, 1000 * q⟩ :: eMs L (h + 1)
def eR (un ra : Int) (L : List Int) : Reg := ⟨[m38S un ra], eHs L 1, eMs L 1⟩
def eMv (h q : Int) : Mv := ⟨0, 0, 1, 1, 0, h, 1000 * q⟩
/-- the register behind some issues -/
structure EAt (un ra : Int) (L : List Int) : Prop where
  ur : UnR38 un ra
  ok : RgOk (eR un ra L)
  day : rgDay (eR un ra L) = 0
  qs : ∀ q ∈ L, 1 ≤ q ∧ q ≤ 9
theorem ur_cases {un ra : Int} (h : UnR38 un ra) : (un = 1 ∨ un = 10 ∨ un = 100 ∨ un = 1000) ∧ (ra = 1000 ∨ ra = 5000) := by
  obtain ⟨h1, h2⟩ := h
  simp at h1 h2
  exact ⟨h1, h2⟩
theorem eAdd {un ra : Int} (h : UnR38 un ra) : raE ⟨[], [], []⟩ (m38S un ra) = 0 ∧ raR ⟨[], [], []⟩ (m38S un ra) = eR un ra [] ∧ EAt un ra [] := by
  have h0 := h
  obtain ⟨h1, h2⟩ := ur_cases h
  rcases h1 with rfl | rfl | rfl | rfl <;> rcases h2 with rfl | rfl <;>
    exact ⟨by kernel_rfl, by kernel_rfl, h0, chkE_iff.1 (by kernel_rfl), by kernel_rfl, by simp⟩
theorem eMs_len : ∀ (L : List Int) (h : Int), (eMs L h).length = L.length
  | [], _ => rfl
  | q :: L, h => by simp [eMs, eMs_len L]
theorem eHs_len : ∀ (L : List Int) (h : Int), (eHs L h).length = L.length
  | [], _ => rfl
  | q :: L, h => by simp [eHs, eHs_len L]
theorem eHs_out : ∀ (L : List Int) (h : Int), (∀ q ∈ L, 1 ≤ q ∧ q ≤ 9) → outH (eHs L h) 1 ≤ 9000 * (L.length : Int)
  | [], _, _ => by simp [eHs, outH]
  | a :: L, h, hq => by
    have := eHs_out L (h + 1) (fun q hq' => hq q (List.mem_cons_of_mem _ hq'))
    have := hq a (List.mem_cons_self ..)
    simp only [eHs, outH, List.length_cons, if_true]
    omega
theorem eAt_next {un ra : Int} {L : List Int} {q : Int} (h : EAt un ra L) (hl : L.length ≤ 3) (hq : 1 ≤ q ∧ q ≤ 9) : rmE (eR un ra L) (eMv ((L.length : Int) + 1) q) = 0 ∧ rmR (eR un ra L) (eMv ((L.length : Int) + 1) q) = eR un ra (L ++ [q]) ∧ EAt un ra (L ++ [q]) := by
  have hml : (eR un ra L).ms.length = L.length := eMs_len L 1
  obtain ⟨hu, hra⟩ := ur_cases h.ur
  have hE : rmE (eR un ra L) (eMv ((L.length : Int) + 1) q) = 0 := by
    unfold rmE
    rw [if_pos (chkE_iff.2 h.ok), if_neg (by omega), mvOk_iff]
    refine ⟨by simp only [numbered, eMv]; omega, by simp only [numbered, eMv]; omega, ?_, fun h0 => absurd rfl h0, fun _ => ?_, m38S un ra, rfl, by simp only [numbered, eMv, m38S]; rcases hu with h | h | h | h <;> rw [h] <;> omega, ?_, by simp [numbered, eMv, m38S]⟩
    · have : strangeB (numbered (eR un ra L) (eMv ((L.length : Int) + 1) q)) = ((0 : Int) != 0 || !inB ((L.length : Int) + 1) 1 1000) := rfl
      rw [this, inB_iff.2 (by omega)]; rfl
    · simp only [numbered, eMv]
      have h2 : outH (eR un ra L).hs 1 ≤ 9000 * (L.length : Int) := eHs_out L 1 h.qs
      omega
    · rw [h.day]
      simp [numbered, eMv, m38S]
  have hR : rmR (eR un ra L) (eMv ((L.length : Int) + 1) q) = eR un ra (L ++ [q]) := by
    rw [rmR_ok hE]
    have q0 : ¬ 1000 * q = 0 := by omega
    match L, hl with
    | [], _ => simp [eR, eMv, numbered, mvH, addZ, addH, eHs, eMs, q0]
    | [a], _ => simp [eR, eMv, numbered, mvH, addZ, addH, eHs, eMs, q0, ltK]
    | [a, b], _ => simp [eR, eMv, numbered, mvH, addZ, addH, eHs, eMs, q0, ltK]
    | [a, b, c], _ => simp [eR, eMv, numbered, mvH, addZ, addH, eHs, eMs, q0, ltK]
  have hmv := RgOk.move hE (show 1 ≤ (1 : Int) ∧ (1 : Int) ≤ 3 by omega)
  rw [hR] at hmv
  refine ⟨hE, hR, h.ur, hmv.1, hmv.2, fun x hx => ?_⟩
  rcases List.mem_append.1 hx with hx | hx
  · exact h.qs x hx
  · rw [List.mem_singleton.1 hx]; exact hq
/-- what a move adds to what is outstanding -/
def mvN (m : Mv) (id : Int) : Int := if m.s = id then (if m.kind = 1 then m.a else if m.kind = 3 then -m.a else 0) else 0
/-- issued less redeemed -/
def nOf : List Mv → Int → Int
  | [], _ => 0
  | m :: ms, id => mvN m id + nOf ms id
theorem nOf_append (L M : List Mv) (id : Int) : nOf (L ++ M) id = nOf L id + nOf M id := by
  induction L with
  | nil => simp [nOf]
  | cons m L ih => simp only [List.cons_append, nOf, ih]; omega
theorem mvN_le {m : Mv} (h : 0 < m.a ∧ m.a ≤ 1000000000000) (id : Int) : -1000000000000 ≤ mvN m id ∧ mvN m id ≤ 1000000000000 := by
  unfold mvN
  split
  · split
    · omega
    · split <;> omega
  · omega
theorem nOf_bd {L : List Mv} (h : ∀ m ∈ L, 0 < m.a ∧ m.a ≤ 1000000000000) (id : Int) : ∀ k : Nat, -(1000000000000 * (k : Int)) ≤ nOf (L.take k) id ∧ nOf (L.take k) id ≤ 1000000000000 * k := by
  induction L with
  | nil => intro k; simp [nOf]; omega
  | cons m L ih =>
    intro k
    cases k with
    | zero => simp [nOf]
    | succ k =>
      have h1 := mvN_le (h m (List.mem_cons_self ..)) id
      have h2 := ih (fun x hx => h x (List.mem_cons_of_mem _ hx)) k
      simp only [List.take_succ_cons, nOf]
      omega
theorem strange_parts {m : Mv} (hk : 1 ≤ m.kind ∧ m.kind ≤ 3) (h : strangeB m = false) : (m.kind = 1 ∧ m.f = 0 ∧ m.t ≠ 0) ∨ (m.kind = 2 ∧ m.f ≠ 0 ∧ m.t ≠ 0) ∨ (m.kind = 3 ∧ m.f ≠ 0 ∧ m.t = 0) := by
  unfold strangeB at h
  by_cases h1 : m.kind = 1
  · rw [if_pos h1, Bool.or_eq_false_iff] at h
    have a1 : m.f = 0 := by simpa using h.1
    have a2 := inB_iff.1 (by simpa using h.2 : inB m.t 1 1000 = true)
    omega
  · rw [if_neg h1] at h
    by_cases h2 : m.kind = 2
    · rw [if_pos h2, Bool.or_eq_false_iff, Bool.or_eq_false_iff] at h
      have a1 := inB_iff.1 (by simpa using h.1.1 : inB m.f 1 1000 = true)
      have a2 := inB_iff.1 (by simpa using h.1.2 : inB m.t 1 1000 = true)
      omega
    · rw [if_neg h2, Bool.or_eq_false_iff] at h
      have a1 : m.t = 0 := by simpa using h.2
      have a2 := inB_iff.1 (by simpa using h.1 : inB m.f 1 1000 = true)
      omega
theorem mvH_out {hs : List Hold} {m : Mv} (hk : 1 ≤ m.kind ∧ m.kind ≤ 3) (h : strangeB m = false) (id : Int) : outH (mvH hs m) id = outH hs id + mvN m id := by
  unfold mvH mvN
  rw [addZ_out, addZ_out]
  rcases strange_parts hk h with ⟨k1, f1, t1⟩ | ⟨k1, f1, t1⟩ | ⟨k1, f1, t1⟩ <;> by_cases hs : m.s = id <;> simp [k1, f1, t1, hs] <;> omega
theorem repl_true {secs : List Sec} {m : Mv} {ms : List Mv} {n d : Int} {hs : List Hold} (h : (repl secs wantAll (m :: ms) n d hs).1 = true) : stepB secs n d hs m = true ∧ (repl secs wantAll ms (n + 1) m.day (mvH hs m)).1 = true ∧ repl secs wantAll (m :: ms) n d hs = repl secs wantAll ms (n + 1) m.day (mvH hs m) := by
  have e : repl secs wantAll (m :: ms) n d hs = if stepB secs n d hs m then repl secs wantAll ms (n + 1) m.day (mvH hs m) else (false, n, d, hs) := by simp only [repl, wantAll, if_true]
  rw [e] at h ⊢
  by_cases hq : stepB secs n d hs m = true
  · rw [if_pos hq] at h ⊢; exact ⟨hq, h, rfl⟩
  · rw [if_neg hq] at h; cases h
theorem repl_out (secs : List Sec) (id : Int) : ∀ (ms : List Mv) (n d : Int) (hs : List Hold), (repl secs wantAll ms n d hs).1 = true → outH (repl secs wantAll ms n d hs).2.2.2 id = outH hs id + nOf ms id
  | [], n, d, hs, _ => by simp [repl, nOf]
  | m :: ms, n, d, hs, h => by
    obtain ⟨h1, h2, h3⟩ := repl_true h
    rw [h3, repl_out secs id ms _ _ _ h2, mvH_out (stepB_iff.1 h1).2.1 (stepB_iff.1 h1).2.2.st]
    simp only [nOf]; omega
theorem repl_amt (secs : List Sec) : ∀ (ms : List Mv) (n d : Int) (hs : List Hold), (repl secs wantAll ms n d hs).1 = true → ∀ m ∈ ms, (0 < m.a ∧ m.a ≤ 1000000000000) ∧ (1 ≤ m.kind ∧ m.kind ≤ 3) ∧ ∃ s, findS secs m.s = some s ∧ m.a % s.un = 0
  | [], n, d, hs, _, m, hm => by simp at hm
  | x :: ms, n, d, hs, h, m, hm => by
    obtain ⟨h1, h2, h3⟩ := repl_true h
    rcases List.mem_cons.1 hm with rfl | hm
    · obtain ⟨s, f1, f2, -, -⟩ := (stepB_iff.1 h1).2.2.fi
      exact ⟨⟨(stepB_iff.1 h1).2.2.a0, (stepB_iff.1 h1).2.2.a1⟩, (stepB_iff.1 h1).2.1, s, f1, f2⟩
    · exact repl_amt secs ms _ _ _ h2 m hm
theorem addZ_mem {L : List Hold} {s h n : Int} {x : Hold} (hx : x ∈ addZ L s h n) : x.s = s ∨ x ∈ L := by
  unfold addZ at hx
  split at hx
  · exact .inr hx
  · rcases addH_mem hx with h | h
    · exact .inl h.1
    · exact .inr h
theorem repl_secs (secs : List Sec) : ∀ (ms : List Mv) (n d : Int) (hs : List Hold), (repl secs wantAll ms n d hs).1 = true → (∀ x ∈ hs, (findS secs x.s).isSome = true) → ∀ x ∈ (repl secs wantAll ms n d hs).2.2.2, (findS secs x.s).isSome = true
  | [], n, d, hs, _, hh => by simpa [repl] using hh
  | m :: ms, n, d, hs, h, hh => by
    obtain ⟨h1, h2, h3⟩ := repl_true h
    rw [h3]
    refine repl_secs secs ms _ _ _ h2 fun x hx => ?_
    obtain ⟨s, f1, -⟩ := (stepB_iff.1 h1).2.2.fi
    rcases addZ_mem hx with e | hx
    · rw [e, f1]; rfl
    · rcases addZ_mem hx with e | hx
      · rw [e, f1]; rfl
      · exact hh x hx
theorem RgOk.out {R : Reg} (h : RgOk R) (id : Int) : outH R.hs id = nOf R.ms id := by
  have := repl_out R.secs id R.ms 0 0 [] h.ok
  rw [h.hs] at this
  simpa [outH] using this
theorem RgOk.amt {R : Reg} (h : RgOk R) : ∀ m ∈ R.ms, (0 < m.a ∧ m.a ≤ 1000000000000) ∧ (1 ≤ m.kind ∧ m.kind ≤ 3) ∧ ∃ s, findS R.secs m.s = some s ∧ m.a % s.un = 0 := repl_amt R.secs R.ms 0 0 [] h.ok
theorem findS_self : ∀ {p : Int} {L : List Sec} {k : Nat} {x : Sec}, secsB p L = true → L[k]? = some x → findS L x.id = some x
  | _, [], k, x, _, hx => by simp at hx
  | p, y :: L, k, x, h, hx => by
    simp only [secsB, Bool.and_eq_true, decide_eq_true_eq] at h
    cases k with
    | zero =>
      simp only [List.getElem?_cons_zero, Option.some.injEq] at hx
      subst hx
      simp [findS]
    | succ k =>
      simp only [List.getElem?_cons_succ] at hx
      have h1 := secsB_gt h.2.2 x (List.mem_of_getElem? hx)
      simp only [findS]
      rw [if_neg (by omega)]
      exact findS_self h.2.2 hx
theorem nOf_unit {L : List Mv} {id un : Int} (h : ∀ m ∈ L, m.s = id → m.a % un = 0) : nOf L id % un = 0 := by
  apply Int.emod_eq_zero_of_dvd
  induction L with
  | nil => exact ⟨0, by simp [nOf]⟩
  | cons m L ih =>
    have h1 := ih (fun x hx => h x (List.mem_cons_of_mem _ hx))
    simp only [nOf]
    refine Int.dvd_add ?_ h1
    unfold mvN
    split
    · rename_i e
      have h2 : un ∣ m.a := Int.dvd_of_emod_eq_zero (h m (List.mem_cons_self ..) e)
      split
      · exact h2
      · split
        · exact Int.dvd_neg.2 h2
        · exact ⟨0, by simp⟩
    · exact ⟨0, by simp⟩
theorem RgOk.unit {R : Reg} (h : RgOk R) {k : Nat} {x : Sec} (hx : R.secs[k]? = some x) : nOf R.ms x.id % x.un = 0 := by
  have hf := findS_self h.secs hx
  refine nOf_unit fun m hm e => ?_
  obtain ⟨-, -, s, f1, f2⟩ := h.amt m hm
  rw [e, hf] at f1
  cases f1
  exact f2
/-- the sum over the securities -/
def debtS : List Sec → List Hold → Int
  | [], _ => 0
  | x :: L, hs => outH hs x.id + debtS L hs
theorem debtS_append (L M : List Sec) (hs : List Hold) : debtS (L ++ M) hs = debtS L hs + debtS M hs := by
  induction L with
  | nil => simp [debtS]
  | cons x L ih => simp only [List.cons_append, debtS, ih]; omega
theorem debtS_nil : ∀ L : List Sec, debtS L [] = 0
  | [] => rfl
  | x :: L => by simp [debtS, outH, debtS_nil L]
theorem debtS_one : ∀ {p : Int} {L : List Sec} (h : Hold) (hs : List Hold), secsB p L = true → debtS L (h :: hs) = (if (findS L h.s).isSome then h.a else 0) + debtS L hs
  | _, [], h, hs, _ => by simp [debtS, findS]
  | p, x :: L, h, hs, hb => by
    simp only [secsB, Bool.and_eq_true, decide_eq_true_eq] at hb
    have ih := debtS_one h hs hb.2.2
    by_cases e : x.id = h.s
    · have hn : findS L h.s = none := findS_none hb.2.2 (by omega)
      have e1 : findS (x :: L) h.s = some x := by simp [findS, e]
      simp only [hn, Option.isSome_none, Bool.false_eq_true, if_false] at ih
      simp only [debtS, outH, e1, Option.isSome_some, if_true]
      rw [if_pos e.symm]
      omega
    · have e1 : findS (x :: L) h.s = findS L h.s := by simp [findS, e]
      simp only [debtS, outH, e1]
      rw [if_neg (fun q => e q.symm)]
      omega
theorem debtS_sum {p : Int} {L : List Sec} (hb : secsB p L = true) : ∀ {hs : List Hold}, (∀ x ∈ hs, (findS L x.s).isSome = true) → debtS L hs = sumH hs
  | [], _ => by rw [debtS_nil]; rfl
  | h :: hs, hh => by
    rw [debtS_one h hs hb, hh h (List.mem_cons_self ..), if_pos rfl, debtS_sum hb (fun x hx => hh x (List.mem_cons_of_mem _ hx))]
    rfl
theorem RgOk.debt {R : Reg} (h : RgOk R) : rgDebt R = debtS R.secs R.hs := by
  unfold rgDebt
  rw [if_pos (chkE_iff.2 h)]
  refine (debtS_sum h.secs ?_).symm
  have := repl_secs R.secs R.ms 0 0 [] h.ok (by simp)
  rw [h.hs] at this
  exact this
theorem debtS_bd {L : List Sec} {hs : List Hold} (h : HsOk hs) : ∀ k : Nat, 0 ≤ debtS (L.take k) hs ∧ debtS (L.take k) hs ≤ 1000000000000 * (k : Int) := by
  induction L with
  | nil => intro k; simp [debtS]; omega
  | cons x L ih =>
    intro k
    cases k with
    | zero => simp [debtS]
    | succ k =>
      have h1 := h.out x.id
      have h2 := outH_nonneg h.pos x.id
      have h3 := ih k
      simp only [List.take_succ_cons, debtS]
      omega
theorem repl_ge {secs : List Sec} : ∀ {ms : List Mv} {n d : Int} {hs : List Hold}, (repl secs wantAll ms n d hs).1 = true → ∀ m ∈ ms, d ≤ m.day
  | [], _, _, _, _, m, hm => by simp at hm
  | x :: ms, n, d, hs, h, m, hm => by
    obtain ⟨h1, h2, -⟩ := repl_true h
    obtain ⟨s, -, -, f3, -⟩ := (stepB_iff.1 h1).2.2.fi
    rcases List.mem_cons.1 hm with rfl | hm
    · omega
    · have := repl_ge h2 m hm
      omega
/-- the moves until a day -/
def msTo (k : Int) (ms : List Mv) : List Mv := ms.filter (fun m => decide (m.day ≤ k))
theorem msTo_none {k : Int} : ∀ {ms : List Mv}, (∀ m ∈ ms, k < m.day) → msTo k ms = []
  | [], _ => rfl
  | m :: ms, h => by
    unfold msTo
    rw [List.filter_cons_of_neg (by have := h m (List.mem_cons_self ..); simp; omega)]
    exact msTo_none (fun x hx => h x (List.mem_cons_of_mem _ hx))
theorem repl_cut {secs : List Sec} (k : Int) : ∀ {ms : List Mv} {n d : Int} {hs : List Hold}, (repl secs wantAll ms n d hs).1 = true → repl secs (wantDay k) ms n d hs = repl secs wantAll (msTo k ms) n d hs ∧ (repl secs wantAll (msTo k ms) n d hs).1 = true
  | [], _, _, _, _ => ⟨rfl, rfl⟩
  | m :: ms, n, d, hs, h => by
    obtain ⟨h1, h2, h3⟩ := repl_true h
    by_cases hd : m.day ≤ k
    · have e1 : msTo k (m :: ms) = m :: msTo k ms := by unfold msTo; rw [List.filter_cons_of_pos (by simpa using hd)]
      have ih := repl_cut k h2
      have hw : wantDay k m = true := decide_eq_true hd
      rw [e1]
      simp only [repl]
      rw [if_pos hw, if_pos (show wantAll m = true from rfl), if_pos h1, if_pos h1]
      exact ih
    · have e1 : msTo k (m :: ms) = [] := by
        refine msTo_none fun x hx => ?_
        rcases List.mem_cons.1 hx with rfl | hx
        · omega
        · have := repl_ge h2 x hx; omega
      have hw : ¬ wantDay k m = true := by unfold wantDay; simpa using hd
      rw [e1]
      simp only [repl]
      rw [if_neg hw]
      constructor <;> first | rfl | trivial
theorem RgOk.cut {R : Reg} (h : RgOk R) (k : Int) : RgOk ⟨R.secs, rgAt R k, msTo k R.ms⟩ := by
  have hc := repl_cut (secs := R.secs) k (n := 0) (d := 0) (hs := []) h.ok
  have hl : (msTo k R.ms).length ≤ R.ms.length := List.length_filter_le _ _
  have h1 := h.lm
  refine ⟨h.ls, by simp only; omega, h.secs, hc.2, ?_⟩
  simp only
  unfold rgAt
  rw [if_pos (chkE_iff.2 h), hc.1]
theorem msTo_all {k : Int} : ∀ {ms : List Mv}, (∀ m ∈ ms, m.day ≤ k) → msTo k ms = ms
  | [], _ => rfl
  | m :: ms, h => by
    unfold msTo
    rw [List.filter_cons_of_pos (by simpa using h m (List.mem_cons_self ..))]
    exact congrArg (m :: ·) (msTo_all (fun x hx => h x (List.mem_cons_of_mem _ hx)))
theorem RgOk.last {R : Reg} (h : RgOk R) : rgAt R 36000 = R.hs := by
  have hd := repl_days h.sec h.ok
  unfold rgAt
  rw [if_pos (chkE_iff.2 h), (repl_cut (secs := R.secs) 36000 (n := 0) (d := 0) (hs := []) h.ok).1, msTo_all (fun m hm => (hd m hm).2)]
  exact h.hs
theorem msTo_snoc {k : Int} (L : List Mv) (m : Mv) : msTo k (L ++ [m]) = if m.day ≤ k then msTo k L ++ [m] else msTo k L := by
  unfold msTo
  rw [List.filter_append]
  by_cases h : m.day ≤ k
  · rw [if_pos h, List.filter_cons_of_pos (by simpa using h)]; rfl
  · rw [if_neg h, List.filter_cons_of_neg (by simpa using h)]; simp
theorem newsMv (w : World) (g : Nat) (hg : g = w.heap.size) (x0 x1 x2 x3 x4 x5 x6 : Int) : ∀ j u, (encMv ⟨x0, x1, x2, x3, x4, x5, x6⟩)[j]? = some u → (w.alloc (.cells #[.int .i64 x0, .int .i64 x1, .int .i64 x2, .int .i64 x3, .int .i64 x4, .int .i64 x5, .int .i64 x6] 174 (0, 0))).cell? ((⟨g, 0, none⟩ : Addr).add j) = some u := by
  subst hg
  intro j u hj
  rw [add_litZ, Nat.zero_add]
  exact cell_whole (heap_alloc_new w _) hj
theorem msTo_len (k : Int) (L : List Mv) : (msTo k L).length ≤ L.length := List.length_filter_le _ _
set_option maxHeartbeats 1000000 in
theorem fHeld_any (P : Nat → Prop) (vs vh vm : Value) (R : Reg) (s h : Int) (w : World) (hr : RgIn P w vs vh vm R) (hS : R.secs.length ≤ 1000000) (hH : R.hs.length ≤ 1000000) (hM : R.ms.length ≤ 1000000) :
    Calls Tryz.prog 54 #[.agg #[vs, vh, vm], .int .i64 s, .int .i64 h] w fun e w' => e = .returned (.int .i64 (rgHeld R s h)) ∧ Below w.heap.size w w' := by
  obtain ⟨a0, n0, c0, rfl, -, -, -⟩ := hr.S.shape
  obtain ⟨a1, n1, c1, rfl, -, -, -⟩ := hr.H.shape
  obtain ⟨a2, n2, c2, rfl, -, -, -⟩ := hr.M.shape
  have HC := Lib.hid (fun W hW => fcheck_any P _ _ _ R W (hr.below (w' := W) hW) hS hH hM)
  have HR := Lib.hid hr
  obtain ⟨E, hE⟩ : ∃ E, chkE R = E := ⟨_, rfl⟩
  obtain ⟨Q, hQ⟩ : ∃ Q, rgHeld R s h = Q := ⟨_, rfl⟩
  have hq := hQ
  unfold rgHeld at hq
  rw [hE] at HC hq
  rw [hQ]
  have HQ := Lib.hid hq
  have HE := Lib.hid hE
  clear hr hQ hE hq
  by_cases h0 : E = 0
  · subst h0
    have hok := chkE_iff.1 HE.out
    have HHELD := Lib.hid (fun W (hW : Below w.heap.size w W) => fheld_any P (.slice a1 n1 c1) R.hs s h W (HR.out.below hW).H hH)
    have hq2 := HQ.out
    rw [if_pos rfl] at hq2
    rw [hq2] at HHELD
    clear hok hq2
    go_enter Tryz.func54, Tryz.ntmps54
    go_wp2_with fail
    refine (HC.out _ (bal brefl _)).mono ?_
    rintro e w1 ⟨rfl, hb1⟩
    have r1 := boxed_cell hb1 1 rfl
    have HB1 := Lib.hid (bup (bal brefl _) hb1)
    clear hb1
    go_wp2_with fail
    refine (HHELD.out _ HB1.out).mono ?_
    rintro e w2 ⟨rfl, hb2⟩
    go_wp2
    go_ret
    exact ⟨rfl, bup HB1.out hb2⟩
  · have hE1 : (E != 0) = true := by simpa using h0
    have hE2 : (E == 0) = false := by simpa using h0
    have hf : Q = 0 := by rw [← HQ.out, if_neg h0]
    subst hf
    go_enter Tryz.func54, Tryz.ntmps54
    go_wp2_with fail
    refine (HC.out _ (bal brefl _)).mono ?_
    rintro e w1 ⟨rfl, hb1⟩
    go_wp2
    go_ret
    exact ⟨rfl, bup (bal brefl _) hb1⟩
set_option maxHeartbeats 1000000 in
theorem fOut_any (P : Nat → Prop) (vs vh vm : Value) (R : Reg) (s : Int) (w : World) (hr : RgIn P w vs vh vm R) (hS : R.secs.length ≤ 1000000) (hH : R.hs.length ≤ 1000000) (hM : R.ms.length ≤ 1000000) :
    Calls Tryz.prog 44 #[.agg #[vs, vh, vm], .int .i64 s] w fun e w' => e = .returned (.int .i64 (rgOut R s)) ∧ Below w.heap.size w w' := by
  obtain ⟨a0, n0, c0, rfl, -, -, -⟩ := hr.S.shape
  obtain ⟨a1, n1, c1, rfl, -, -, -⟩ := hr.H.shape
  obtain ⟨a2, n2, c2, rfl, -, -, -⟩ := hr.M.shape
  have HC := Lib.hid (fun W hW => fcheck_any P _ _ _ R W (hr.below (w' := W) hW) hS hH hM)
  have HR := Lib.hid hr
  obtain ⟨E, hE⟩ : ∃ E, chkE R = E := ⟨_, rfl⟩
  obtain ⟨Q, hQ⟩ : ∃ Q, rgOut R s = Q := ⟨_, rfl⟩
  have hq := hQ
  unfold rgOut at hq
  rw [hE] at HC hq
  rw [hQ]
  have HQ := Lib.hid hq
  have HE := Lib.hid hE
  clear hr hQ hE hq
  by_cases h0 : E = 0
  · subst h0
    have hok := chkE_iff.1 HE.out
    have HHELD := Lib.hid (fun W (hW : Below w.heap.size w W) => fout_any P (.slice a1 n1 c1) R.hs s W (HR.out.below hW).H hok.hok hH)
    have hq2 := HQ.out
    rw [if_pos rfl] at hq2
    rw [hq2] at HHELD
    clear hok hq2
    go_enter Tryz.func44, Tryz.ntmps44
    go_wp2_with fail
    refine (HC.out _ (bal brefl _)).mono ?_
    rintro e w1 ⟨rfl, hb1⟩
    have r1 := boxed_cell hb1 1 rfl
    have HB1 := Lib.hid (bup (bal brefl _) hb1)
    clear hb1
    go_wp2_with fail
    refine (HHELD.out _ HB1.out).mono ?_
    rintro e w2 ⟨rfl, hb2⟩
    go_wp2
    go_ret
    exact ⟨rfl, bup HB1.out hb2⟩
  · have hE1 : (E != 0) = true := by simpa using h0
    have hE2 : (E == 0) = false := by simpa using h0
    have hf : Q = 0 := by rw [← HQ.out, if_neg h0]
    subst hf
    go_enter Tryz.func44, Tryz.ntmps44
    go_wp2_with fail
    refine (HC.out _ (bal brefl _)).mono ?_
    rintro e w1 ⟨rfl, hb1⟩
    go_wp2
    go_ret
    exact ⟨rfl, bup (bal brefl _) hb1⟩
set_option maxHeartbeats 1000000 in
theorem fAt_any (P : Nat → Prop) (vs vh vm : Value) (R : Reg) (day : Int) (w : World) (hr : RgIn P w vs vh vm R) (hS : R.secs.length ≤ 1000000) (hH : R.hs.length ≤ 1000000) (hM : R.ms.length ≤ 1000000) :
    Calls Tryz.prog 135 #[.agg #[vs, vh, vm], .int .i64 day] w (GaveH (fun _ => True) (rgAt R day) w) := by
  obtain ⟨a0, n0, c0, rfl, -, -, -⟩ := hr.S.shape
  obtain ⟨a1, n1, c1, rfl, -, -, -⟩ := hr.H.shape
  obtain ⟨a2, n2, c2, rfl, -, -, -⟩ := hr.M.shape
  have HC := Lib.hid (fun W hW => fcheck_any P _ _ _ R W (hr.below (w' := W) hW) hS hH hM)
  have HR := Lib.hid hr
  obtain ⟨E, hE⟩ : ∃ E, chkE R = E := ⟨_, rfl⟩
  rw [hE] at HC
  have HE := Lib.hid hE
  clear hr hE
  by_cases h0 : E = 0
  · subst h0
    have hok := chkE_iff.1 HE.out
    have hc := repl_cut (secs := R.secs) day (n := 0) (d := 0) (hs := []) hok.ok
    have hq : rgAt R day = (repl R.secs (wantDay day) R.ms 0 0 []).2.2.2 := by unfold rgAt; rw [if_pos HE.out]
    have hb : (repl R.secs (wantDay day) R.ms 0 0 []).1 = true := by rw [hc.1]; exact hc.2
    rw [hq]
    obtain ⟨X, hX⟩ : ∃ X, repl R.secs (wantDay day) R.ms 0 0 [] = X := ⟨_, rfl⟩
    have HU := Lib.hid (fun W (hW : Below w.heap.size w W) => (show Calls Tryz.prog 219 #[.agg #[.slice a0 n0 c0, .slice a1 n1 c1, .slice a2 n2 c2], .int .i64 day] W (Until X W) by rw [← hX]; exact funtil_any P _ _ _ R day W (HR.out.below hW) hS (by have := hok.lm; omega) hok.sec))
    rw [hX] at hb ⊢
    have HX := Lib.hid hb
    clear hok hc hq hb hX
    go_enter Tryz.func135, Tryz.ntmps135
    go_wp2_with fail
    refine (HC.out _ (bal brefl _)).mono ?_
    rintro e w1 ⟨rfl, hb1⟩
    have r0 := boxed_cell hb1 0 rfl
    have r1 := boxed_cell hb1 1 rfl
    have r2 := boxed_cell hb1 2 rfl
    have HB1 := Lib.hid (bup (bal brefl _) hb1)
    clear hb1
    go_wp2_with fail
    refine (HU.out _ HB1.out).mono ?_
    rintro e w2 ⟨v, rfl, hy, -, hb2⟩
    have hSl := hy HX.out
    obtain ⟨lb, ln, lc, rfl, -, -, -⟩ := hSl.shape
    have HSl := Lib.hid hSl
    have HB2 := Lib.hid (bup HB1.out hb2)
    clear hy hb2 hSl
    go_wp2
    go_ret
    exact ⟨_, rfl, HSl.out.mono (fun _ _ _ => trivial), HB2.out⟩
  · have hE1 : (E != 0) = true := by simpa using h0
    have hE2 : (E == 0) = false := by simpa using h0
    have hq : rgAt R day = [] := by unfold rgAt; rw [if_neg (by rw [HE.out]; exact h0)]
    rw [hq]
    go_enter Tryz.func135, Tryz.ntmps135
    go_wp2_with fail
    refine (HC.out _ (bal brefl _)).mono ?_
    rintro e w1 ⟨rfl, hb1⟩
    go_wp2
    go_ret
    exact ⟨_, rfl, holdNil _ _, bup (bal brefl _) hb1⟩

theorem box_belowN {w w3 : World} {C : Array Value} {T : TypeId} (hb : Below (w.alloc (.cells C T (0, 0))).heap.size (w.alloc (.cells C T (0, 0))) w3) : w3.heap[w.heap.size]? = some (.cells C T (0, 0)) := (hb.block _ (by simp)).trans (heap_alloc_new w _)
set_option maxHeartbeats 1000000 in
theorem rfind_yes (P : Nat → Prop) (vs vh vm : Value) (R : Reg) (x : Int) (id un is ma ra ev : Int) (ix : Bool) (w : World) (hr : RgIn P w vs vh vm R) (hlen : R.secs.length ≤ 1000000) (hf : findS R.secs x = some ⟨id, un, is, ma, ra, ev, ix⟩) :
    Calls Tryz.prog 131 #[.agg #[vs, vh, vm], .int .i64 x] w fun e w' => e = .returned (.tuple #[.agg #[.int .i64 id, .int .i64 un, .int .i64 is, .int .i64 ma, .int .i64 ra, .int .i64 ev, .bool ix], .bool true]) ∧ Below w.heap.size w w' := by
  obtain ⟨a0, n0, c0, rfl, -, -, -⟩ := hr.S.shape
  obtain ⟨a1, n1, c1, rfl, -, -, -⟩ := hr.H.shape
  obtain ⟨a2, n2, c2, rfl, -, -, -⟩ := hr.M.shape
  have HF := Lib.hid (fun W (hW : Below w.heap.size w W) => find_yes P _ R.secs x id un is ma ra ev ix W (hr.S.below hW) hlen hf)
  clear hr hf
  go_enter Tryz.func131, Tryz.ntmps131
  go_wp2_with fail
  refine (HF.out _ (bal (bal brefl _) _)).mono ?_
  rintro e w1 ⟨rfl, hb1⟩
  have hx := box_belowN hb1
  simp only [World.size_alloc] at hx
  have z1 := hb1.size
  simp only [World.size_alloc] at z1
  have HB := Lib.hid (bup (bal (bal brefl _) _) hb1)
  clear hb1
  have x0 := cell_heap (i := 0) hx rfl
  have xf0 := frozen_of_row w1 _ 0 _ _ hx
  have x1 := cell_heap (i := 1) hx rfl
  have xf1 := frozen_of_row w1 _ 1 _ _ hx
  have x2 := cell_heap (i := 2) hx rfl
  have xf2 := frozen_of_row w1 _ 2 _ _ hx
  have x3 := cell_heap (i := 3) hx rfl
  have xf3 := frozen_of_row w1 _ 3 _ _ hx
  have x4 := cell_heap (i := 4) hx rfl
  have xf4 := frozen_of_row w1 _ 4 _ _ hx
  have x5 := cell_heap (i := 5) hx rfl
  have xf5 := frozen_of_row w1 _ 5 _ _ hx
  have x6 := cell_heap (i := 6) hx rfl
  have xf6 := frozen_of_row w1 _ 6 _ _ hx
  clear hx
  go_wp2
  refine bodyPost_ret (v := .tuple #[.agg #[.int .i64 id, .int .i64 un, .int .i64 is, .int .i64 ma, .int .i64 ra, .int .i64 ev, .bool ix], .bool true]) (by simp [results, Tryz.results131, go_sem, x0, x1, x2, x3, x4, x5, x6]) rfl ⟨rfl, ?_⟩
  exact bset7 HB.out (by omega) _ _ _ _ _ _ _
set_option maxHeartbeats 1000000 in
theorem rfind_no (P : Nat → Prop) (vs vh vm : Value) (R : Reg) (x : Int)  (w : World) (hr : RgIn P w vs vh vm R) (hlen : R.secs.length ≤ 1000000) (hf : findS R.secs x = none) :
    Calls Tryz.prog 131 #[.agg #[vs, vh, vm], .int .i64 x] w fun e w' => e = .returned (.tuple #[.agg #[.int .i64 0, .int .i64 0, .int .i64 0, .int .i64 0, .int .i64 0, .int .i64 0, .bool false], .bool false]) ∧ Below w.heap.size w w' := by
  obtain ⟨a0, n0, c0, rfl, -, -, -⟩ := hr.S.shape
  obtain ⟨a1, n1, c1, rfl, -, -, -⟩ := hr.H.shape
  obtain ⟨a2, n2, c2, rfl, -, -, -⟩ := hr.M.shape
  have HF := Lib.hid (fun W (hW : Below w.heap.size w W) => find_no P _ R.secs x W (hr.S.below hW) hlen hf)
  clear hr hf
  go_enter Tryz.func131, Tryz.ntmps131
  go_wp2_with fail
  refine (HF.out _ (bal (bal brefl _) _)).mono ?_
  rintro e w1 ⟨rfl, hb1⟩
  have hx := box_belowN hb1
  simp only [World.size_alloc] at hx
  have z1 := hb1.size
  simp only [World.size_alloc] at z1
  have HB := Lib.hid (bup (bal (bal brefl _) _) hb1)
  clear hb1
  have x0 := cell_heap (i := 0) hx rfl
  have xf0 := frozen_of_row w1 _ 0 _ _ hx
  have x1 := cell_heap (i := 1) hx rfl
  have xf1 := frozen_of_row w1 _ 1 _ _ hx
  have x2 := cell_heap (i := 2) hx rfl
  have xf2 := frozen_of_row w1 _ 2 _ _ hx
  have x3 := cell_heap (i := 3) hx rfl
  have xf3 := frozen_of_row w1 _ 3 _ _ hx
  have x4 := cell_heap (i := 4) hx rfl
  have xf4 := frozen_of_row w1 _ 4 _ _ hx
  have x5 := cell_heap (i := 5) hx rfl
  have xf5 := frozen_of_row w1 _ 5 _ _ hx
  have x6 := cell_heap (i := 6) hx rfl
  have xf6 := frozen_of_row w1 _ 6 _ _ hx
  clear hx
  go_wp2
  refine bodyPost_ret (v := .tuple #[.agg #[.int .i64 0, .int .i64 0, .int .i64 0, .int .i64 0, .int .i64 0, .int .i64 0, .bool false], .bool false]) (by simp [results, Tryz.results131, go_sem, x0, x1, x2, x3, x4, x5, x6]) rfl ⟨rfl, ?_⟩
  exact bset7 HB.out (by omega) _ _ _ _ _ _ _
theorem ret_ee {a b a' b' : Int} (h : a = a' ∧ b = b') : Ending.returned (.tuple #[.int .i64 a, .int .i64 b]) = .returned (.tuple #[.int .i64 a', .int .i64 b']) := by
  obtain ⟨rfl, rfl⟩ := h; rfl
/-- of a first call in a boxed parameter's world -/
theorem below_box {w w1 : World} {o : Obj} (h : Below (w.alloc o).heap.size (w.alloc o) w1) : Below w.heap.size w w1 := ((Below.refl _ _).alloc (Nat.le_refl _) _).trans (h.mono (by simp))

theorem amongC_any (n lo hi : Int) (w : World) : Calls Tryz.prog 180 #[.int .i64 n, .int .i64 lo, .int .i64 hi] w fun e w' => e = .returned (.bool (inB n lo hi)) ∧ w = w' := by
  go_enter Tryz.func180, Tryz.ntmps180
  go_wp2
  all_goals (go_ret; exact ⟨ret_bool (by simp only [inB]; first | (rw [Bool.eq_iff_iff]; simp; omega) | (simp; omega)), rfl⟩)
theorem nearest_any (n d : Int) (w : World) (h0 : 0 ≤ n) (h1 : n ≤ 9000000000000000000) (d0 : 2 ≤ d) (d1 : d ≤ 1000000000) : Calls Tryz.prog 179 #[.int .i64 n, .int .i64 d] w fun e w' => e = .returned (.int .i64 ((n + d / 2) / d)) ∧ w = w' := by
  have b0 : 0 ≤ (n + d / 2) / d := Int.ediv_nonneg (by omega) (by omega)
  have b1 : (n + d / 2) / d ≤ n + d / 2 := Int.ediv_le_self _ (by omega)
  go_enter Tryz.func179, Tryz.ntmps179
  go_wp2
  go_ret
  exact ⟨rfl, rfl⟩

/-- the error of a security and an amount -/
def ccE (id un is ma ra ev n : Int) : Int := if secB id un is ma ra ev then (if inB n 0 1000000000000 then 0 else 2) else 76
theorem ccheck_any (id un is ma ra ev : Int) (ix : Bool) (n : Int) (w : World) :
    Calls Tryz.prog 178 #[.agg #[.int .i64 id, .int .i64 un, .int .i64 is, .int .i64 ma, .int .i64 ra, .int .i64 ev, .bool ix], .int .i64 n] w fun e w' => e = .returned (.int .i64 (ccE id un is ma ra ev n)) ∧ Below w.heap.size w w' := by
  unfold ccE
  cases hs : secB id un is ma ra ev <;> cases hn : inB n 0 1000000000000
  all_goals
    go_enter Tryz.func178, Tryz.ntmps178
    go_wp2_with fail
    refine (security_any id un is ma ra ev ix _).mono ?_
    rw [hs]
    rintro e w1 ⟨rfl, hb⟩
    have hB := below_box hb
    go_wp2_with (go_at_call 221; refine (valid_any _ _).mono ?_; rintro e w' ⟨rfl, rfl⟩)
    go_ret
    exact ⟨rfl, hB⟩

/-- a coupon -/
def cpN (id un is ma ra ev n : Int) : Int := if ccE id un is ma ra ev n = 0 then (n * ra * ev + 600000) / 1200000 else 0
theorem ccE_zero {id un is ma ra ev n : Int} (h : ccE id un is ma ra ev n = 0) : SecOk id un is ma ra ev ∧ 0 ≤ n ∧ n ≤ 1000000000000 := by
  unfold ccE at h
  split at h
  · split at h
    · exact ⟨secB_iff.1 (by assumption), inB_iff.1 (by assumption)⟩
    · omega
  · omega
theorem ccE_of {id un is ma ra ev n : Int} (h : SecOk id un is ma ra ev) (h0 : 0 ≤ n) (h1 : n ≤ 1000000000000) : ccE id un is ma ra ev n = 0 := by
  unfold ccE
  rw [secB_iff.2 h, inB_iff.2 ⟨h0, h1⟩]
  rfl
theorem coupon_any (id un is ma ra ev : Int) (ix : Bool) (n : Int) (w : World) :
    Calls Tryz.prog 78 #[.agg #[.int .i64 id, .int .i64 un, .int .i64 is, .int .i64 ma, .int .i64 ra, .int .i64 ev, .bool ix], .int .i64 n] w fun e w' => e = .returned (.tuple #[.int .i64 (cpN id un is ma ra ev n), .int .i64 (ccE id un is ma ra ev n)]) ∧ Below w.heap.size w w' := by
  unfold cpN
  by_cases h : ccE id un is ma ra ev n = 0
  · obtain ⟨hs, n0, n1⟩ := ccE_zero h
    obtain ⟨_, _, _, _, _, _, _, _, r0, r1, he⟩ := hs
    have e0 : 0 ≤ ev ∧ ev ≤ 12 := by omega
    obtain ⟨e0, e1⟩ := e0
    obtain ⟨p0, p1⟩ := mul_bd n0 n1 r0 r1
    obtain ⟨q0, q1⟩ := mul_bd p0 p1 e0 e1
    clear he
    rw [if_pos h, h]
    have H := Lib.hid h
    clear h
    go_enter Tryz.func78, Tryz.ntmps78
    go_wp2_with fail
    refine (ccheck_any id un is ma ra ev ix n _).mono ?_
    rw [H.out]
    rintro e w1 ⟨rfl, hb⟩
    obtain ⟨hc, hf⟩ := bcell hb
    have hB := below_box hb
    have hz : w.heap.size < w1.heap.size := by have := hb.size; simp at this; omega
    go_wp2_with (go_at_call 179; refine (nearest_any _ _ _ (by omega) (by omega) (by omega) (by omega)).mono ?_; rintro e w' ⟨rfl, rfl⟩)
    go_ret2
    exact ⟨ret_ee ⟨rfl, rfl⟩, hB⟩
  · rw [if_neg h]
    have h' : (ccE id un is ma ra ev n != 0) = true := by simpa using h
    have H := Lib.hid h
    clear h
    go_enter Tryz.func78, Tryz.ntmps78
    go_wp2_with fail
    refine (ccheck_any id un is ma ra ev ix n _).mono ?_
    rintro e w1 ⟨rfl, hb⟩
    have hB := below_box hb
    go_wp2
    go_ret2
    exact ⟨rfl, hB⟩

/-- the last coupon day -/
def lastD (id un is ma ra ev day : Int) : Int := if secB id un is ma ra ev && inB day is ma then (if ev = 0 then is else day - (day - is) % (30 * ev)) else -1
theorem lastD_yes {id un is ma ra ev day : Int} (h : SecOk id un is ma ra ev) (h0 : is ≤ day) (h1 : day ≤ ma) : lastD id un is ma ra ev day = if ev = 0 then is else day - (day - is) % (30 * ev) := by
  unfold lastD
  rw [secB_iff.2 h, inB_iff.2 ⟨h0, h1⟩]
  rfl
set_option maxHeartbeats 400000 in
theorem last_any (id un is ma ra ev : Int) (ix : Bool) (day : Int) (w : World) :
    Calls Tryz.prog 82 #[.agg #[.int .i64 id, .int .i64 un, .int .i64 is, .int .i64 ma, .int .i64 ra, .int .i64 ev, .bool ix], .int .i64 day] w fun e w' => e = .returned (.int .i64 (lastD id un is ma ra ev day)) ∧ Below w.heap.size w w' := by
  cases hs : secB id un is ma ra ev
  · rw [show lastD id un is ma ra ev day = -1 by simp [lastD, hs]]
    go_enter Tryz.func82, Tryz.ntmps82
    go_wp2_with fail
    refine (security_any id un is ma ra ev ix _).mono ?_
    rw [hs]
    rintro e w1 ⟨rfl, hb⟩
    have hB := below_box hb
    go_wp2
    go_ret
    exact ⟨rfl, hB⟩
  · obtain ⟨_, _, _, _, i0, m0, m1, m2, r0, r1, he⟩ := secB_iff.1 hs
    have HS := Lib.hid hs
    cases hd : inB day is ma
    · rw [show lastD id un is ma ra ev day = -1 by simp [lastD, hd]]
      clear hs he
      go_enter Tryz.func82, Tryz.ntmps82
      go_wp2_with fail
      refine (security_any id un is ma ra ev ix _).mono ?_
      rw [HS.out]
      rintro e w1 ⟨rfl, hb⟩
      obtain ⟨hc, hf⟩ := bcell hb
      have hB := below_box hb
      have hz : w.heap.size < w1.heap.size := by have := hb.size; simp at this; omega
      go_wp2_with (go_at_call 180; refine (amongC_any _ _ _ _).mono ?_; rintro e w' ⟨rfl, rfl⟩)
      go_ret
      exact ⟨rfl, hB⟩
    · obtain ⟨d0, d1⟩ := inB_iff.1 hd
      rw [show lastD id un is ma ra ev day = if ev = 0 then is else day - (day - is) % (30 * ev) by simp [lastD, hs, hd]]
      clear hs
      by_cases e0 : ev = 0
      · rw [if_pos e0]
        have HE := Lib.hid he
        clear he
        have e1 : (ev == 0) = true := by simpa using e0
        clear e0
        go_enter Tryz.func82, Tryz.ntmps82
        go_wp2_with fail
        refine (security_any id un is ma ra ev ix _).mono ?_
        rw [HS.out]
        rintro e w1 ⟨rfl, hb⟩
        obtain ⟨hc, hf⟩ := bcell hb
        have hB := below_box hb
        have hz : w.heap.size < w1.heap.size := by have := hb.size; simp at this; omega
        go_wp2_with (go_at_call 180; refine (amongC_any _ _ _ _).mono ?_; rintro e w' ⟨rfl, rfl⟩)
        go_ret
        exact ⟨rfl, hB⟩
      · rw [if_neg e0]
        have e1 : 1 ≤ ev := by omega
        have e2 : ev ≤ 12 := by omega
        have e3 : (ev == 0) = false := by simpa using e0
        have k0 : 0 ≤ (day - is) % (30 * ev) := Int.emod_nonneg _ (by omega)
        have k1 : (day - is) % (30 * ev) < 30 * ev := Int.emod_lt_of_pos _ (by omega)
        clear he e0
        go_enter Tryz.func82, Tryz.ntmps82
        go_wp2_with fail
        refine (security_any id un is ma ra ev ix _).mono ?_
        rw [HS.out]
        rintro e w1 ⟨rfl, hb⟩
        obtain ⟨hc, hf⟩ := bcell hb
        have hB := below_box hb
        have hz : w.heap.size < w1.heap.size := by have := hb.size; simp at this; omega
        go_wp2_with (go_at_call 180; refine (amongC_any _ _ _ _).mono ?_; rintro e w' ⟨rfl, rfl⟩)
        go_ret
        exact ⟨rfl, hB⟩
theorem plain2_any (n : Int) (w : World) : Calls Tryz.prog 256 #[.int .i64 n] w fun e w' => e = .returned (.tuple #[.int .i64 n, .int .i64 0]) ∧ w = w' := by
  go_enter Tryz.func256, Tryz.ntmps256
  go_wp2
  go_ret2
  exact ⟨rfl, rfl⟩
theorem plain1_any (g : Nat) (n : Int) (id un is ma ra ev : Int) (ix : Bool) (w : World) (h0 : w.cell? ⟨g, 0, none⟩ = some (.int .i64 id)) (h1 : w.cell? ⟨g, 1, none⟩ = some (.int .i64 un)) (h2 : w.cell? ⟨g, 2, none⟩ = some (.int .i64 is)) (h3 : w.cell? ⟨g, 3, none⟩ = some (.int .i64 ma)) (h4 : w.cell? ⟨g, 4, none⟩ = some (.int .i64 ra)) (h5 : w.cell? ⟨g, 5, none⟩ = some (.int .i64 ev)) (h6 : w.cell? ⟨g, 6, none⟩ = some (.bool ix)) :
    Calls Tryz.prog 255 #[.int .i64 n, .pointer (some ⟨g, 0, none⟩)] w fun e w' => e = .returned (.tuple #[.int .i64 (cpN id un is ma ra ev n), .int .i64 (ccE id un is ma ra ev n)]) ∧ Below w.heap.size w w' := by
  obtain ⟨c, hc⟩ : ∃ c, cpN id un is ma ra ev n = c := ⟨_, rfl⟩
  obtain ⟨d, hd⟩ : ∃ d, ccE id un is ma ra ev n = d := ⟨_, rfl⟩
  have HC := Lib.hid (coupon_any id un is ma ra ev ix n w)
  rw [hc, hd] at HC
  rw [hc, hd]
  go_enter Tryz.func255, Tryz.ntmps255
  go_wp2_with fail
  refine HC.out.mono ?_
  rintro e w1 ⟨rfl, hb⟩
  go_wp2
  go_ret2
  exact ⟨rfl, hb⟩
theorem newsDue (w : World) (g : Nat) (hg : g = w.heap.size) (x0 x1 x2 x3 x4 : Int) : ∀ j u, (encDue ⟨x0, x1, x2, x3, x4⟩)[j]? = some u → (w.alloc (.cells #[.int .i64 x0, .int .i64 x1, .int .i64 x2, .int .i64 x3, .int .i64 x4] 180 (0, 0))).cell? ((⟨g, 0, none⟩ : Addr).add j) = some u := by
  subst hg
  intro j u hj
  rw [add_litZ, Nat.zero_add]
  exact cell_whole (heap_alloc_new w _) hj
/-- what is added -/
def dueL (day s h kind c : Int) : List Due := if c = 0 then [] else [⟨day, s, h, kind, c⟩]
/-- what add leaves: the list in the box ob is longer -/
def Added1 (ob base : Nat) (L : List Due) (E : Int) (w : World) (e : Ending) (w' : World) : Prop :=
  ∃ p len c, e = .returned (.int .i64 E) ∧ len = L.length ∧ w'.heap[ob]? = some (.cells #[.slice p len c] 62 (0, 0)) ∧ w'.ownsRow base 180 5 (.slice p len c) len (flatE encDue L) ∧ w.heap.size ≤ w'.heap.size ∧ (∀ k, k < base → k ≠ ob → w'.heap[k]? = w.heap[k]?) ∧ w'.os = w.os ∧ w'.tape = w.tape ∧ w'.output = w.output
set_option maxHeartbeats 4000000 in
set_option maxRecDepth 100000 in
theorem addC_any (hb ob db base : Nat) (kind day s h a : Int) (p : Option Addr) (len c : Nat) (L : List Due) (g : Nat) (id un is ma ra ev : Int) (ix : Bool) (w : World) (k0 : w.cell? ⟨g, 0, none⟩ = some (.int .i64 id)) (k1 : w.cell? ⟨g, 1, none⟩ = some (.int .i64 un)) (k2 : w.cell? ⟨g, 2, none⟩ = some (.int .i64 is)) (k3 : w.cell? ⟨g, 3, none⟩ = some (.int .i64 ma)) (k4 : w.cell? ⟨g, 4, none⟩ = some (.int .i64 ra)) (k5 : w.cell? ⟨g, 5, none⟩ = some (.int .i64 ev)) (k6 : w.cell? ⟨g, 6, none⟩ = some (.bool ix)) (hH : w.heap[hb]? = some (.cells #[.int .i64 s, .int .i64 h, .int .i64 a] 171 (0, 0))) (hD : w.heap[db]? = some (.cells #[.int .i64 day] 3 (0, 0))) (hO : w.heap[ob]? = some (.cells #[.slice p len c] 62 (0, 0))) (hown : w.ownsRow base 180 5 (.slice p len c) len (flatE encDue L)) (hlen : len = L.length) (hl : len ≤ 100000) (hbase : base ≤ w.heap.size) (h1 : hb < base) (h2 : db < base) (h3 : ob < base) :
    Calls Tryz.prog 232 #[.int .i64 kind, .func (.func 255) #[] #[.pointer (some ⟨g, 0, none⟩)], .pointer (some ⟨hb, 0, none⟩), .pointer (some ⟨ob, 0, none⟩), .pointer (some ⟨db, 0, none⟩)] w (Added1 ob base (L ++ dueL day s h kind (cpN id un is ma ra ev a)) (ccE id un is ma ra ev a) w) := by
  obtain ⟨i1, hi, hz0, hz1, hz2⟩ := info_parts infoDue
  obtain ⟨C, hC⟩ : ∃ C, cpN id un is ma ra ev a = C := ⟨_, rfl⟩
  obtain ⟨E, hE⟩ : ∃ E, ccE id un is ma ra ev a = E := ⟨_, rfl⟩
  rw [hC, hE]
  have x2 := cell_heap (i := 2) hH rfl
  have HK := Lib.hid (plain1_any g a id un is ma ra ev ix w k0 k1 k2 k3 k4 k5 k6)
  rw [hC, hE] at HK
  have HH := Lib.hid hH
  have HD := Lib.hid hD
  have HO := Lib.hid hO
  have HW := Lib.hid hown
  have HL := Lib.hid hlen
  clear hlen
  go_enter Tryz.func232, Tryz.ntmps232
  go_wp2_with fail
  refine HK.out.mono ?_
  rintro e w1 ⟨rfl, hb⟩
  have z1 := hb.size
  have hH1 := (hb.block _ (by omega)).trans HH.out
  have hD1 := (hb.block _ (by omega)).trans HD.out
  have hO1 := (hb.block _ (by omega)).trans HO.out
  have HW1 := Lib.hid (ownsRow_belowZ HW.out hb)
  have HB := Lib.hid hb
  have HO1 := Lib.hid hO1
  have y0 := cell_heap (i := 0) hH1 rfl
  have y1 := cell_heap (i := 1) hH1 rfl
  have y3 := cell_heap (i := 0) hD1 rfl
  have y4 := cell_heap (i := 0) hO1 rfl
  clear hb hH1 hD1 hO1 x2
  by_cases h0 : C = 0
  · subst h0
    go_wp2
    go_ret
    exact ⟨p, len, c, rfl, by simp [dueL, HL.out], HO1.out, by simpa [dueL] using HW1.out, z1, fun k hk _ => HB.out.block k (by omega), HB.out.os, HB.out.tape, HB.out.output⟩
  · have g1 : (C != 0) = true := by simpa using h0
    have g2 : (C == 0) = false := by simpa using h0
    have hdl : dueL day s h kind C = [⟨day, s, h, kind, C⟩] := by unfold dueL; rw [if_neg h0]
    have HDL := Lib.hid hdl
    clear hdl
    go_wp2_with (at_builtin; go_must (refine wpList_append_own _ rfl _ _ 62 rfl base 180 i1 (.agg #[.int .i64 0, .int .i64 0, .int .i64 0, .int .i64 0, .int .i64 0]) 5 40 Tryz.underlying62 hi hz0 hz1 hz2 rfl (by decide) (.slice p len c) len (flatE encDue L) rfl (HW1.out.alloc _) ⟨_, 0, none⟩ 1 1 (encDue ⟨day, s, h, kind, C⟩) rfl rfl (newsDue _ _ (by simp) day s h kind C) (oneDue _) (by unfold maxLen; omega) (by omega) (by simp; omega) ?_); intro v5 w5 ho5 hg5 _; have hb5 : Below base w1 w5 := ((Below.refl _ w1).alloc (by omega) _).grown hg5 (by simp; omega) (fun q hq => (HW1.out.lt q hq).1); have z5 := hb5.size; obtain ⟨p5, c5, rfl⟩ := own_slice0 ho5; have hO5 := (hb5.block ob h3).trans HO1.out; have q0 := cell_heap (i := 0) hO5 rfl; have qf0 := frozen_of_row w5 _ 0 _ _ hO5; have HW5 := Lib.hid ho5; have HO5 := Lib.hid hO5; have HB5 := Lib.hid hb5; clear ho5 hO5 hb5 hg5)
    go_ret
    have e0 := heap_setCell_same w5 _ 0 _ _ (.slice p5 (len + 1) c5) HO5.out
    refine ⟨p5, len + 1, c5, rfl, by rw [HDL.out]; simp [HL.out], e0, ?_, by simp [World.setCell]; omega, fun k hk hne => (Below.heap_setCell _ _ _ _ (by simp only; exact hne)).trans ((HB5.out.block k hk).trans (HB.out.block k (by omega))), ?_, ?_, ?_⟩
    · rw [HDL.out, flatE_snoc]; exact own_kept HW5.out (grownBy_setCellZ ..) (by omega)
    · exact HB5.out.os.trans HB.out.os
    · exact HB5.out.tape.trans HB.out.tape
    · exact HB5.out.output.trans HB.out.output
set_option maxHeartbeats 4000000 in
set_option maxRecDepth 100000 in
theorem addP_any (hb ob db base : Nat) (kind day s h a : Int) (p : Option Addr) (len c : Nat) (L : List Due)  (w : World) (hH : w.heap[hb]? = some (.cells #[.int .i64 s, .int .i64 h, .int .i64 a] 171 (0, 0))) (hD : w.heap[db]? = some (.cells #[.int .i64 day] 3 (0, 0))) (hO : w.heap[ob]? = some (.cells #[.slice p len c] 62 (0, 0))) (hown : w.ownsRow base 180 5 (.slice p len c) len (flatE encDue L)) (hlen : len = L.length) (hl : len ≤ 100000) (hbase : base ≤ w.heap.size) (h1 : hb < base) (h2 : db < base) (h3 : ob < base) :
    Calls Tryz.prog 232 #[.int .i64 kind, .func (.func 256) #[] #[], .pointer (some ⟨hb, 0, none⟩), .pointer (some ⟨ob, 0, none⟩), .pointer (some ⟨db, 0, none⟩)] w (Added1 ob base (L ++ dueL day s h kind (a)) (0) w) := by
  obtain ⟨i1, hi, hz0, hz1, hz2⟩ := info_parts infoDue
  have x2 := cell_heap (i := 2) hH rfl
  have HK := Lib.hid ((plain2_any a w).mono (fun e w' (h : _ ∧ w = w') => (⟨h.1, by rw [← h.2]; exact brefl⟩ : _ ∧ Below w.heap.size w w')))
  have HH := Lib.hid hH
  have HD := Lib.hid hD
  have HO := Lib.hid hO
  have HW := Lib.hid hown
  have HL := Lib.hid hlen
  clear hlen
  go_enter Tryz.func232, Tryz.ntmps232
  go_wp2_with fail
  refine HK.out.mono ?_
  rintro e w1 ⟨rfl, hb⟩
  have z1 := hb.size
  have hH1 := (hb.block _ (by omega)).trans HH.out
  have hD1 := (hb.block _ (by omega)).trans HD.out
  have hO1 := (hb.block _ (by omega)).trans HO.out
  have HW1 := Lib.hid (ownsRow_belowZ HW.out hb)
  have HB := Lib.hid hb
  have HO1 := Lib.hid hO1
  have y0 := cell_heap (i := 0) hH1 rfl
  have y1 := cell_heap (i := 1) hH1 rfl
  have y3 := cell_heap (i := 0) hD1 rfl
  have y4 := cell_heap (i := 0) hO1 rfl
  clear hb hH1 hD1 hO1 x2
  by_cases h0 : a = 0
  · subst h0
    go_wp2
    go_ret
    exact ⟨p, len, c, rfl, by simp [dueL, HL.out], HO1.out, by simpa [dueL] using HW1.out, z1, fun k hk _ => HB.out.block k (by omega), HB.out.os, HB.out.tape, HB.out.output⟩
  · have g1 : (a != 0) = true := by simpa using h0
    have g2 : (a == 0) = false := by simpa using h0
    have hdl : dueL day s h kind a = [⟨day, s, h, kind, a⟩] := by unfold dueL; rw [if_neg h0]
    have HDL := Lib.hid hdl
    clear hdl
    go_wp2_with (at_builtin; go_must (refine wpList_append_own _ rfl _ _ 62 rfl base 180 i1 (.agg #[.int .i64 0, .int .i64 0, .int .i64 0, .int .i64 0, .int .i64 0]) 5 40 Tryz.underlying62 hi hz0 hz1 hz2 rfl (by decide) (.slice p len c) len (flatE encDue L) rfl (HW1.out.alloc _) ⟨_, 0, none⟩ 1 1 (encDue ⟨day, s, h, kind, a⟩) rfl rfl (newsDue _ _ (by simp) day s h kind a) (oneDue _) (by unfold maxLen; omega) (by omega) (by simp; omega) ?_); intro v5 w5 ho5 hg5 _; have hb5 : Below base w1 w5 := ((Below.refl _ w1).alloc (by omega) _).grown hg5 (by simp; omega) (fun q hq => (HW1.out.lt q hq).1); have z5 := hb5.size; obtain ⟨p5, c5, rfl⟩ := own_slice0 ho5; have hO5 := (hb5.block ob h3).trans HO1.out; have q0 := cell_heap (i := 0) hO5 rfl; have qf0 := frozen_of_row w5 _ 0 _ _ hO5; have HW5 := Lib.hid ho5; have HO5 := Lib.hid hO5; have HB5 := Lib.hid hb5; clear ho5 hO5 hb5 hg5)
    go_ret
    have e0 := heap_setCell_same w5 _ 0 _ _ (.slice p5 (len + 1) c5) HO5.out
    refine ⟨p5, len + 1, c5, rfl, by rw [HDL.out]; simp [HL.out], e0, ?_, by simp [World.setCell]; omega, fun k hk hne => (Below.heap_setCell _ _ _ _ (by simp only; exact hne)).trans ((HB5.out.block k hk).trans (HB.out.block k (by omega))), ?_, ?_, ?_⟩
    · rw [HDL.out, flatE_snoc]; exact own_kept HW5.out (grownBy_setCellZ ..) (by omega)
    · exact HB5.out.os.trans HB.out.os
    · exact HB5.out.tape.trans HB.out.tape
    · exact HB5.out.output.trans HB.out.output
/-- the place of a number, or -1 -/
def idxI : List Int → Int → Int → Int
  | [], _, _ => -1
  | a :: L, x, k => if a = x then k else idxI L x (k + 1)
theorem idxI_mem : ∀ {L : List Int} {x k : Int}, 0 ≤ k → (0 ≤ idxI L x k ↔ x ∈ L)
  | [], x, k, _ => by simp [idxI]
  | a :: L, x, k, hk => by
    simp only [idxI]
    by_cases h : a = x
    · rw [if_pos h]; simp [h, hk]
    · rw [if_neg h, idxI_mem (by omega)]
      simp only [List.mem_cons]
      constructor
      · exact fun q => .inr q
      · rintro (q | q)
        · exact absurd q.symm h
        · exact q
theorem index_any (P : Nat → Prop) (v : Value) (L : List Int) (x : Int) (w : World) (hS : Sl 1 encI P w v L) (hlen : L.length ≤ 1000000) :
    Calls Tryz.prog 284 #[v, .int .i64 x] w fun e w' => e = .returned (.int .i64 (idxI L x 0)) ∧ w = w' := by
  obtain ⟨ao, n, c, rfl, hn, hnc, hcm⟩ := hS.shape
  have hn1 : n ≤ 1000000 := by omega
  obtain ⟨r, hr⟩ : ∃ r, idxI L x 0 = r := ⟨_, rfl⟩
  rw [hr]
  have HS := Lib.hid hS
  have HN := Lib.hid hn
  have HR := Lib.hid hr
  clear hS hn hlen hr
  go_enter Tryz.func284, Tryz.ntmps284
  go_wp2
  go_loopw [8] (fun iv wr => ∃ k : Nat, k ≤ n ∧ iv = .int .i64 k ∧ r = idxI (L.drop k) x k ∧ wr = w) (fun iv _ => n - (intOf iv).toNat)
  case atStart => exact ⟨0, by omega, rfl, by rw [List.drop_zero]; exact HR.out.symm, rfl⟩
  case round =>
    obtain ⟨k, hk, rfl, hrk, rfl⟩ := hrel
    by_cases hlt : k < n
    · obtain ⟨b, off, a, rfl, -, hb', hL, k0⟩ := HS.out.int hlt
      rw [drop_cons hL] at hrk
      simp only [idxI] at hrk
      have HRK := Lib.hid hrk
      have hkn : (k : Int) < n := by omega
      clear hL hrk
      by_cases e1 : a = x
      · have hf : r = (k : Int) := by rw [HRK.out, if_pos e1]
        subst hf
        subst e1
        go_wp2
        go_ret
        exact ⟨rfl, rfl⟩
      · have hrel2 := Lib.hid (show r = idxI (L.drop (k + 1)) x ((k + 1 : Nat) : Int) by rw [HRK.out, if_neg e1]; rfl)
        have q1 : (x == a) = false := by simp; omega
        go_wp2
        go_roundw
        case rel => exact ⟨k + 1, by omega, by go_num, hrel2.out, by first | rfl | trivial⟩
        case measure => simp [intOf]; omega
    · have hf : r = -1 := by rw [hrk, drop_all (by have := HN.out; omega)]; rfl
      subst hf
      clear hrk
      go_wp2
      go_ret
      exact ⟨rfl, rfl⟩
theorem contains_any (P : Nat → Prop) (v : Value) (L : List Int) (x : Int) (w : World) (hS : Sl 1 encI P w v L) (hlen : L.length ≤ 1000000) :
    Calls Tryz.prog 233 #[v, .int .i64 x] w fun e w' => e = .returned (.bool (decide (x ∈ L))) ∧ w = w' := by
  have hd : decide (x ∈ L) = decide (0 ≤ idxI L x 0) := by rw [decide_eq_decide]; exact (idxI_mem (by omega)).symm
  rw [hd]
  obtain ⟨ao, n, c, rfl, -, -, -⟩ := hS.shape
  obtain ⟨r, hr⟩ : ∃ r, idxI L x 0 = r := ⟨_, rfl⟩
  have HC := Lib.hid (index_any P _ L x w hS hlen)
  rw [hr] at HC ⊢
  clear hr hd hS
  go_enter Tryz.func233, Tryz.ntmps233
  go_wp2_with fail
  refine HC.out.mono ?_
  rintro e w1 ⟨rfl, rfl⟩
  go_wp2
  go_ret
  exact ⟨ret_bool (by first | rfl | simp), rfl⟩
/-- the k-th coupon day, from 0 -/
def dayAt (is ev : Int) (k : Nat) : Int := is + 30 * ev * (k + 1)
/-- how many coupon days there are -/
def dayN (id un is ma ra ev : Int) : Nat := if secB id un is ma ra ev && ev != 0 then ((ma - is) / (30 * ev)).toNat else 0
def daysL (id un is ma ra ev : Int) : List Int := (List.range (dayN id un is ma ra ev)).map (dayAt is ev)
def dayCells (is ev : Int) (k : Nat) : List Value := (List.range k).map fun j => Value.int .i64 (dayAt is ev j)
theorem dayCells_succ (is ev : Int) (k : Nat) : dayCells is ev (k + 1) = dayCells is ev k ++ [.int .i64 (dayAt is ev k)] := by simp [dayCells, List.range_succ]
/-- what Days leaves -/
def DaysMade (id un is ma ra ev : Int) (w : World) (e : Ending) (w' : World) : Prop :=
  ∃ v, e = .returned v ∧ SlAt w' (w.heap.size ≤ ·) v (dayN id un is ma ra ev) (dayCells is ev (dayN id un is ma ra ev)) ∧ Below w.heap.size w w'

structure DInv (is ma ev : Int) (k : Nat) (d : Int) : Prop where
  d0 : d = dayAt is ev k
  lo : is + 30 * ev ≤ d
  hi : d ≤ ma + 30 * ev
  kk : (k : Int) * 30 ≤ ma - is
theorem dinv_start {is ma ev : Int} (h1 : 1 ≤ ev) (h : is ≤ ma) : DInv is ma ev 0 (is + 30 * ev) := ⟨by simp [dayAt], by omega, by omega, by omega⟩
theorem dayAt_succ (is ev : Int) (k : Nat) : dayAt is ev (k + 1) = dayAt is ev k + 30 * ev := by
  unfold dayAt
  have : ((k + 1 : Nat) : Int) = (k : Int) + 1 := by omega
  rw [this, Int.mul_add (30 * ev) ((k : Int) + 1) 1]
  omega
theorem dayAt_ge (is ev : Int) (k : Nat) (h : 1 ≤ ev) : is + 30 * ((k : Int) + 1) ≤ dayAt is ev k := by
  unfold dayAt
  have : 30 * ((k : Int) + 1) ≤ 30 * ev * ((k : Int) + 1) := Int.mul_le_mul_of_nonneg_right (by omega) (by omega)
  omega
theorem dinv_step {is ma ev : Int} {k : Nat} {d : Int} (h : DInv is ma ev k d) (h1 : 1 ≤ ev) (hd : d ≤ ma) : DInv is ma ev (k + 1) (d + 30 * ev) := by
  obtain ⟨h0, hl, hh, hk⟩ := h
  have := dayAt_ge is ev k h1
  exact ⟨by rw [dayAt_succ, ← h0], by omega, by omega, by omega⟩
theorem dinv_end {is ma ev : Int} {k : Nat} {d : Int} (h : DInv is ma ev k d) (h1 : 1 ≤ ev) (him : is ≤ ma) (hd : ma < d) : k = ((ma - is) / (30 * ev)).toNat := by
  obtain ⟨h0, hl, hh, hk⟩ := h
  unfold dayAt at h0
  have e1 : 30 * ev * ((k : Int) + 1) = k * (30 * ev) + 30 * ev := by rw [Int.mul_add, Int.mul_one, Int.mul_comm]
  have e2 : (ma - is) / (30 * ev) = k := by
    have a := Int.ediv_emod_unique (a := ma - is) (b := 30 * ev) (r := ma - is - k * (30 * ev)) (q := k) (by omega)
    exact (a.2 ⟨by rw [Int.mul_comm (30 * ev) (k : Int)]; omega, by omega, by omega⟩).1
  omega

set_option maxHeartbeats 1000000 in
theorem days_any (id un is ma ra ev : Int) (ix : Bool) (w : World) :
    Calls Tryz.prog 77 #[.agg #[.int .i64 id, .int .i64 un, .int .i64 is, .int .i64 ma, .int .i64 ra, .int .i64 ev, .bool ix]] w (DaysMade id un is ma ra ev w) := by
  cases hs : secB id un is ma ra ev
  · have hn : dayN id un is ma ra ev = 0 := by simp [dayN, hs]
    have HN := Lib.hid hn
    clear hn
    go_enter Tryz.func77, Tryz.ntmps77
    go_wp2_with fail
    refine (security_any id un is ma ra ev ix _).mono ?_
    rw [hs]
    rintro e w1 ⟨rfl, hb⟩
    have hB := below_box hb
    go_wp2
    go_ret
    exact ⟨_, rfl, by rw [HN.out]; exact ⟨none, 0, rfl, Nat.le_refl _, Nat.zero_le _, .inl rfl⟩, hB⟩
  · obtain ⟨_, _, _, _, i0, m0, m1, m2, r0, r1, he⟩ := secB_iff.1 hs
    have HS := Lib.hid hs
    by_cases e0 : ev = 0
    · have hn : dayN id un is ma ra ev = 0 := by simp [dayN, e0]
      have HN := Lib.hid hn
      have e1 : (ev == 0) = true := by simpa using e0
      clear hn he e0 hs
      go_enter Tryz.func77, Tryz.ntmps77
      go_wp2_with fail
      refine (security_any id un is ma ra ev ix _).mono ?_
      rw [HS.out]
      rintro e w1 ⟨rfl, hb⟩
      obtain ⟨hc, hf⟩ := bcell hb
      have hB := below_box hb
      have hz : w.heap.size < w1.heap.size := by have := hb.size; simp at this; omega
      go_wp2
      go_ret
      exact ⟨_, rfl, by rw [HN.out]; exact ⟨none, 0, rfl, Nat.le_refl _, Nat.zero_le _, .inl rfl⟩, hB⟩
    · have hn : dayN id un is ma ra ev = ((ma - is) / (30 * ev)).toNat := by simp [dayN, hs, e0]
      have HN := Lib.hid hn
      have e1 : 1 ≤ ev := by omega
      have e2 : ev ≤ 12 := by omega
      have e3 : (ev == 0) = false := by simpa using e0
      clear hn he e0 hs
      obtain ⟨i1, hi, hz0, hz1, hz2⟩ := info_parts infoInt
      go_enter Tryz.func77, Tryz.ntmps77
      go_wp2_with fail
      refine (security_any id un is ma ra ev ix _).mono ?_
      rw [HS.out]
      rintro e w1 ⟨rfl, hb⟩
      have hB := below_box hb
      have hz : w.heap.size < w1.heap.size := by have := hb.size; simp at this; omega
      have b2 : w1.cell? ⟨w.heap.size, 2, none⟩ = some (.int .i64 is) := by obtain ⟨hc, _⟩ := bcell hb; rw [hc _ _ (by simp), World.cell?_alloc_at _ _ _ _ rfl]; rfl
      have b3 : w1.cell? ⟨w.heap.size, 3, none⟩ = some (.int .i64 ma) := by obtain ⟨hc, _⟩ := bcell hb; rw [hc _ _ (by simp), World.cell?_alloc_at _ _ _ _ rfl]; rfl
      have b5 : w1.cell? ⟨w.heap.size, 5, none⟩ = some (.int .i64 ev) := by obtain ⟨hc, _⟩ := bcell hb; rw [hc _ _ (by simp), World.cell?_alloc_at _ _ _ _ rfl]; rfl
      clear hb
      go_wp2
      go_loopw [3, 4] (fun v dv wr => ∃ (k : Nat) (d : Int), dv = .int .i64 d ∧ DInv is ma ev k d ∧ wr.ownsRow w1.heap.size 3 1 v k (dayCells is ev k) ∧ Below w1.heap.size w1 wr) (fun _ dv _ => (ma + 361 - intOf dv).toNat)
      case atStart => exact ⟨0, _, rfl, dinv_start e1 (by omega), World.ownsRow_nil _ _ _ _, Below.refl _ _⟩
      case round =>
        obtain ⟨k, d, rfl, hI, hown, hbr⟩ := hrel
        have d1 := hI.lo
        have d2 := hI.hi
        have d3 := hI.kk
        have HI := Lib.hid hI
        have c2 : wr.cell? ⟨w.heap.size, 2, none⟩ = some (.int .i64 is) := (hbr.cell (by exact hz)).trans b2
        have c3 : wr.cell? ⟨w.heap.size, 3, none⟩ = some (.int .i64 ma) := (hbr.cell (by exact hz)).trans b3
        have c5 : wr.cell? ⟨w.heap.size, 5, none⟩ = some (.int .i64 ev) := (hbr.cell (by exact hz)).trans b5
        have zr := hbr.size
        clear hI
        by_cases hd : d ≤ ma
        · go_wp2_with (at_builtin; go_must (refine wpList_append_own _ rfl _ _ 22 rfl w1.heap.size 3 i1 (.int .i64 0) 1 8 Tryz.underlying22 hi hz0 hz1 hz2 rfl (by decide) _ _ _ rfl (hown.alloc _) ⟨wr.heap.size, 0, none⟩ 1 1 [.int .i64 d] rfl rfl (news1 _ _ _) (one1 _ _) (by unfold maxLen; omega) (by omega) (by simp; omega) ?_); intro v' w2 hown' hgrow _; have hb2 : Below w1.heap.size w1 w2 := (hbr.alloc hbr.size _).grown hgrow (by simp; omega) (fun q hq => (hown.lt q hq).1); have c5' := (hb2.cell (p := ⟨w.heap.size, 5, none⟩) (by exact hz)).trans b5)
          go_roundw
          case rel => exact ⟨k + 1, d + 30 * ev, by go_num, dinv_step HI.out e1 hd, by rw [dayCells_succ, ← HI.out.d0]; exact hown', hb2⟩
          case measure => simp [intOf]; omega
        · have hk := dinv_end HI.out e1 (by omega) (by omega)
          go_wp2
          go_ret
          exact ⟨_, rfl, by rw [HN.out, ← hk]; exact (SlAt.own hown).mono (fun b h => by omega), hB.trans (hbr.mono (by omega))⟩
/-- the closure f adds what is due of a kind, in the boxes that Of makes -/
def AddK (kind : Int) (f : Value) (C EC day s h a : Int) (w : World) : Prop :=
  ∀ (U : World) (p : Option Addr) (len c : Nat) (L : List Due), Below w.heap.size w U →
    U.heap[w.heap.size + 1]? = some (.cells #[.int .i64 s, .int .i64 h, .int .i64 a] 171 (0, 0)) → U.heap[w.heap.size + 1 + 1]? = some (.cells #[.int .i64 day] 3 (0, 0)) → U.heap[w.heap.size + 1 + 1 + 1]? = some (.cells #[.slice p len c] 62 (0, 0)) →
    U.ownsRow (w.heap.size + 1 + 1 + 1 + 1) 180 5 (.slice p len c) len (flatE encDue L) → len = L.length → len ≤ 1000 → w.heap.size + 1 + 1 + 1 + 1 ≤ U.heap.size →
    Calls Tryz.prog 232 #[.int .i64 kind, f, .pointer (some ⟨w.heap.size + 1, 0, none⟩), .pointer (some ⟨w.heap.size + 1 + 1 + 1, 0, none⟩), .pointer (some ⟨w.heap.size + 1 + 1, 0, none⟩)] U (Added1 (w.heap.size + 1 + 1 + 1) (w.heap.size + 1 + 1 + 1 + 1) (L ++ dueL day s h kind C) EC U)
def ofE (b1 b2 : Bool) (EC EP : Int) : Int := if b1 = true ∧ EC ≠ 0 then EC else if b2 = true ∧ EP ≠ 0 then EP else 0
def ofL (b1 b2 : Bool) (EC EP C Q day s h : Int) : List Due := if ofE b1 b2 EC EP = 0 then (if b1 then dueL day s h 1 C else []) ++ (if b2 then dueL day s h 2 Q else []) else []
/-- what Of leaves -/
def OfW (L : List Due) (E : Int) (w : World) (e : Ending) (w' : World) : Prop :=
  ∃ v, e = .returned (.tuple #[v, .int .i64 E]) ∧ w'.ownsRow w.heap.size 180 5 v L.length (flatE encDue L) ∧ Below w.heap.size w w'
theorem ofW_nil {L : List Due} {E k : Int} {w w' : World} (hL : L = []) (hE : E = k) (hb : Below w.heap.size w w') : OfW L E w (.returned (.tuple #[.slice none 0 0, .int .i64 k])) w' := by
  subst hL hE; exact ⟨_, rfl, World.ownsRow_nil _ _ _ _, hb⟩
theorem dueL_len (day s h kind c : Int) : (dueL day s h kind c).length ≤ 1 := by unfold dueL; split <;> simp
theorem SlAt.sl {P : Nat → Prop} {w : World} {v : Value} {L : List Int} (h : SlAt w P v L.length (L.map (Value.int .i64))) : Sl 1 encI P w v L := by
  obtain ⟨ao, c, rfl, h1, h2, h3⟩ := h
  refine ⟨_, _, _, rfl, rfl, h1, h2, ?_⟩
  rcases h3 with h3 | ⟨b, off, e, hp, hc⟩
  · left; simpa using h3
  · by_cases h0 : L.length = 0
    · exact .inl h0
    · refine .inr ⟨b, off, e, hp, World.block_lt_of_cell? w _ (hc 0 (by simp <;> omega)), fun j a hj i u hi => ?_⟩
      obtain ⟨hjl, rfl⟩ := List.getElem?_eq_some_iff.1 hj
      match i, hi with
      | 0, hi =>
        simp only [encI, List.getElem?_cons_zero, Option.some.injEq] at hi
        subst hi
        have := hc j (by simpa using hjl)
        simpa using this
theorem dayCells_map (is ev : Int) (n : Nat) : dayCells is ev n = ((List.range n).map (dayAt is ev)).map (Value.int .i64) := by simp [dayCells]
theorem daysMade_sl (id un is ma ra ev : Int) (ix : Bool) {w w' : World} {e : Ending} (h : DaysMade id un is ma ra ev w e w') : ∃ v, e = .returned v ∧ Sl 1 encI (w.heap.size ≤ ·) w' v (daysL id un is ma ra ev) ∧ Below w.heap.size w w' := by
  obtain ⟨v, rfl, hs, hb⟩ := h
  refine ⟨v, rfl, ?_, hb⟩
  apply SlAt.sl
  unfold daysL
  rw [dayCells_map] at hs
  simpa using hs
theorem dayN_le (id un is ma ra ev : Int) (ix : Bool) : dayN id un is ma ra ev ≤ 1000000 := by
  unfold dayN
  split
  · rename_i h
    rw [Bool.and_eq_true] at h
    have hk := secB_iff.1 h.1
    have h1 := hk.ma1
    have h2 := hk.ma0
    have h3 : ev ≠ 0 := by simpa using h.2
    have h4 := hk.ev
    have : (ma - is) / (30 * ev) ≤ ma - is := Int.ediv_le_self _ (by omega)
    omega
  · omega
set_option maxHeartbeats 8000000 in
set_option maxRecDepth 100000 in
theorem cof_any (id un is ma ra ev : Int) (ix : Bool) (s h a day C EC Qp EP : Int) (f1 f2 : Fn) (cs1 cb1 cs2 cb2 : Array Value) (w : World) (b1 b2 : Bool) (hb1 : decide (day ∈ daysL id un is ma ra ev) = b1) (hb2 : decide (day = ma) = b2) (hC : AddK 1 (.func f1 cs1 cb1) C EC day s h a w) (hP : AddK 2 (.func f2 cs2 cb2) Qp EP day s h a w) :
    Calls Tryz.prog 132 #[.agg #[.int .i64 id, .int .i64 un, .int .i64 is, .int .i64 ma, .int .i64 ra, .int .i64 ev, .bool ix], .agg #[.int .i64 s, .int .i64 h, .int .i64 a], .int .i64 day, .func f1 cs1 cb1, .func f2 cs2 cb2] w (OfW (ofL b1 b2 EC EP C Qp day s h) (ofE b1 b2 EC EP) w) := by
  have KC := Lib.hid hC
  have KP := Lib.hid hP
  have HB1 := Lib.hid hb1
  have HB2 := Lib.hid hb2
  have hdl : (daysL id un is ma ra ev).length ≤ 1000000 := by unfold daysL; rw [List.length_map, List.length_range]; exact dayN_le id un is ma ra ev ix
  clear hC hP hb1 hb2
  go_enter Tryz.func132, Tryz.ntmps132
  go_upto_region 3 with fail
  obtain ⟨W0, hW0⟩ : ∃ W, W = (((w.alloc (.cells #[.int .i64 id, .int .i64 un, .int .i64 is, .int .i64 ma, .int .i64 ra, .int .i64 ev, .bool ix] 26 (0, 0))).alloc (.cells #[.int .i64 s, .int .i64 h, .int .i64 a] 171 (0, 0))).alloc (.cells #[.int .i64 day] 3 (0, 0))).alloc (.cells #[.slice none 0 0] 62 (0, 0)) := ⟨_, rfl⟩
  rw [← hW0]
  have hBW : Below w.heap.size w W0 := by rw [hW0]; exact bal (bal (bal (bal brefl _) _) _) _
  have hzz : W0.heap.size = w.heap.size + 1 + 1 + 1 + 1 := by rw [hW0]; simp
  have hS0 : W0.heap[w.heap.size]? = some (.cells #[.int .i64 id, .int .i64 un, .int .i64 is, .int .i64 ma, .int .i64 ra, .int .i64 ev, .bool ix] 26 (0, 0)) := by rw [hW0]; exact (heap_alloc_old _ _ (by simp <;> omega)).trans ((heap_alloc_old _ _ (by simp <;> omega)).trans ((heap_alloc_old _ _ (by simp)).trans (heap_alloc_new w _)))
  have hH0 : W0.heap[w.heap.size + 1]? = some (.cells #[.int .i64 s, .int .i64 h, .int .i64 a] 171 (0, 0)) := by rw [hW0]; exact (heap_alloc_old _ _ (by simp <;> omega)).trans ((heap_alloc_old _ _ (by simp)).trans (heap_at (by simp)))
  have hD0 : W0.heap[w.heap.size + 1 + 1]? = some (.cells #[.int .i64 day] 3 (0, 0)) := by rw [hW0]; exact (heap_alloc_old _ _ (by simp)).trans (heap_at (by simp))
  have hO0 : W0.heap[w.heap.size + 1 + 1 + 1]? = some (.cells #[.slice none 0 0] 62 (0, 0)) := by rw [hW0]; exact heap_at (by simp)
  have HBW := Lib.hid hBW
  have HZ := Lib.hid hzz
  have HS0 := Lib.hid hS0
  have HH0 := Lib.hid hH0
  have HD0 := Lib.hid hD0
  have HO0 := Lib.hid hO0
  have k0 := cell_heap (i := 0) hS0 rfl
  have k1 := cell_heap (i := 1) hS0 rfl
  have k2 := cell_heap (i := 2) hS0 rfl
  have k3 := cell_heap (i := 3) hS0 rfl
  have k4 := cell_heap (i := 4) hS0 rfl
  have k5 := cell_heap (i := 5) hS0 rfl
  have k6 := cell_heap (i := 6) hS0 rfl
  have kd := cell_heap (i := 0) hD0 rfl
  clear hW0 hBW hzz hS0 hH0 hD0 hO0
  go_cut [20] (fun s20 wx => s20 = .bool b1 ∧ Below W0.heap.size W0 wx)
  case first =>
    go_region_with (first | (go_at_call 77; refine (days_any _ _ _ _ _ _ _ _).mono ?_; rintro e w1 hdm; obtain ⟨v, rfl, hsl, hbd⟩ := daysMade_sl id un is ma ra ev ix hdm; obtain ⟨ao, n, c, rfl, -, -, -⟩ := hsl.shape; have HSL := Lib.hid hsl; have HBD := Lib.hid hbd; have kd1 := keepB (w := W0) (by exact ⟨hbd.os, hbd.tape, hbd.output, hbd.size, hbd.block⟩) kd; clear hsl hbd hdm) | (go_at_call 233; refine (contains_any _ _ _ day _ HSL.out hdl).mono ?_; rw [HB1.out]; rintro e w2 ⟨rfl, rfl⟩))
    all_goals (go_wp2_with fail; go_meet)
    all_goals exact ⟨rfl, ⟨HBD.out.os, HBD.out.tape, HBD.out.output, HBD.out.size, HBD.out.block⟩⟩
  case rest =>
    obtain ⟨rfl, hbc⟩ := hcut
    have HBC := Lib.hid (HBW.out.trans (hbc.mono (by have := HBW.out.size; omega)))
    have hzc := hbc.size
    rw [HZ.out] at hzc
    have hzW0 := HZ.out
    have HSc := Lib.hid ((hbc.block w.heap.size (by omega)).trans HS0.out)
    have HHc := Lib.hid ((hbc.block (w.heap.size + 1) (by omega)).trans HH0.out)
    have HDc := Lib.hid ((hbc.block (w.heap.size + 1 + 1) (by omega)).trans HD0.out)
    have HOc := Lib.hid ((hbc.block (w.heap.size + 1 + 1 + 1) (by omega)).trans HO0.out)
    clear hbc hzW0 k0 k1 k2 k3 k4 k5 k6 kd HS0 HH0 HD0 HO0
    cases b1
    · obtain ⟨p, len, c, hplc⟩ : ∃ (p : Option Addr) (len c : Nat), p = none ∧ len = 0 ∧ c = 0 := ⟨_, _, _, rfl, rfl, rfl⟩
      obtain ⟨rfl, rfl, rfl⟩ := hplc
      obtain ⟨len, hlen⟩ : ∃ n : Nat, n = 0 := ⟨_, rfl⟩
      have HBL := HBC
      have HS := HSc
      have HH := HHc
      have HD := HDc
      have HO := HOc
      have HW := Lib.hid (World.ownsRow_nil wc (w.heap.size + 1 + 1 + 1 + 1) 180 5)
      have HLN := Lib.hid (show 0 = ([] : List Due).length from rfl)
      have hzW := hzc
      clear hlen
      have d0 := cell_heap (i := 0) HD.out rfl
      have m3 := cell_heap (i := 3) HS.out rfl
      have o0 := cell_heap (i := 0) HO.out rfl
      by_cases hdm : day = ma
      · have hb2 : b2 = true := by rw [← HB2.out]; simpa using hdm
        subst hb2
        have q1 : (day == ma) = true := by simpa using hdm
        have HK2 := Lib.hid (KP.out _ none 0 0 (([] : List Due)) HBL.out HH.out HD.out HO.out HW.out HLN.out (by omega) hzW)
        have HDM := Lib.hid hdm
        clear hdm
        go_wp2_with fail
        refine HK2.out.mono ?_
        rintro e w5 ⟨p5, len5, c5, rfl, hlen5, hO5, hown5, hz5, hk5, hos5, htp5, hou5⟩
        have HB5 := Lib.hid (show Below w.heap.size w w5 from ⟨hos5.trans HBL.out.os, htp5.trans HBL.out.tape, hou5.trans HBL.out.output, by have := HBL.out.size; omega, fun k hk => (hk5 k (by omega) (by omega)).trans (HBL.out.block k hk)⟩)
        have o5 := cell_heap (i := 0) hO5 rfl
        have HW5 := Lib.hid hown5
        have HL5 := Lib.hid hlen5
        clear hown5 hlen5 hk5 hos5 htp5 hou5 hO5 o0 m3 d0
        by_cases h2 : EP = 0
        · subst h2
          have e1 := Lib.hid (show ofE false true EC 0 = 0 by simp [ofE])
          have e2 := Lib.hid (show ofL false true EC 0 C Qp day s h = ([] : List Due) ++ dueL day s h 2 Qp by unfold ofL; rw [e1.out]; simp)
          go_wp2
          go_ret2
          rw [e1.out, e2.out]
          exact ⟨_, rfl, by rw [← HL5.out]; exact ownsRow_baseZ HW5.out (by omega), HB5.out⟩
        · have g2 : (EP == 0) = false := by simpa using h2
          have e1 := Lib.hid (show ofE false true EC EP = EP by simp [ofE, h2])
          have e2 := Lib.hid (show ofL false true EC EP C Qp day s h = [] by unfold ofL; rw [e1.out, if_neg h2])
          go_wp2
          go_ret2
          exact ofW_nil e2.out e1.out HB5.out
      · have hb2 : b2 = false := by rw [← HB2.out]; simpa using hdm
        subst hb2
        have q1 : (day == ma) = false := by simpa using hdm
        have e1 := Lib.hid (show ofE false false EC EP = 0 by simp [ofE])
        have e2 := Lib.hid (show ofL false false EC EP C Qp day s h = ([] : List Due) by unfold ofL; rw [e1.out]; simp)
        clear hdm
        go_wp2
        go_ret2
        rw [e1.out, e2.out]
        exact ⟨_, rfl, by rw [← HLN.out]; exact ownsRow_baseZ HW.out (by omega), HBL.out⟩
    · have HKc := Lib.hid (KC.out _ none 0 0 [] HBC.out HHc.out HDc.out HOc.out (World.ownsRow_nil wc (w.heap.size + 1 + 1 + 1 + 1) 180 5) rfl (by omega) hzc)
      go_wp2_with fail
      refine HKc.out.mono ?_
      rintro e w1 ⟨p, len, c, rfl, hlen1, hO1, hown1, hz1, hk1, hos1, htp1, hou1⟩
      have HBL := Lib.hid (show Below w.heap.size w w1 from ⟨hos1.trans HBC.out.os, htp1.trans HBC.out.tape, hou1.trans HBC.out.output, by have := HBC.out.size; omega, fun k hk => (hk1 k (by omega) (by omega)).trans (HBC.out.block k hk)⟩)
      have HS := Lib.hid ((hk1 w.heap.size (by omega) (by omega)).trans HSc.out)
      have HH := Lib.hid ((hk1 (w.heap.size + 1) (by omega) (by omega)).trans HHc.out)
      have HD := Lib.hid ((hk1 (w.heap.size + 1 + 1) (by omega) (by omega)).trans HDc.out)
      have HO := Lib.hid hO1
      have HW := Lib.hid hown1
      have hlen2 : len = (dueL day s h 1 C).length := hlen1
      have hlb := dueL_len day s h 1 C
      have hle : len ≤ 1 := by omega
      have HLN := Lib.hid hlen2
      have hzW : w.heap.size + 1 + 1 + 1 + 1 ≤ w1.heap.size := by omega
      clear hlen1 hlen2 hO1 hown1 hk1 hos1 htp1 hou1 hlb HSc HHc HDc HOc HKc
      by_cases h1 : EC = 0
      · subst h1
        have d0 := cell_heap (i := 0) HD.out rfl
        have m3 := cell_heap (i := 3) HS.out rfl
        have o0 := cell_heap (i := 0) HO.out rfl
        by_cases hdm : day = ma
        · have hb2 : b2 = true := by rw [← HB2.out]; simpa using hdm
          subst hb2
          have q1 : (day == ma) = true := by simpa using hdm
          have HK2 := Lib.hid (KP.out _ p len c (dueL day s h 1 C) HBL.out HH.out HD.out HO.out HW.out HLN.out (by omega) hzW)
          have HDM := Lib.hid hdm
          clear hdm
          go_wp2_with fail
          refine HK2.out.mono ?_
          rintro e w5 ⟨p5, len5, c5, rfl, hlen5, hO5, hown5, hz5, hk5, hos5, htp5, hou5⟩
          have HB5 := Lib.hid (show Below w.heap.size w w5 from ⟨hos5.trans HBL.out.os, htp5.trans HBL.out.tape, hou5.trans HBL.out.output, by have := HBL.out.size; omega, fun k hk => (hk5 k (by omega) (by omega)).trans (HBL.out.block k hk)⟩)
          have o5 := cell_heap (i := 0) hO5 rfl
          have HW5 := Lib.hid hown5
          have HL5 := Lib.hid hlen5
          clear hown5 hlen5 hk5 hos5 htp5 hou5 hO5 o0 m3 d0
          by_cases h2 : EP = 0
          · subst h2
            have e1 := Lib.hid (show ofE true true 0 0 = 0 by simp [ofE])
            have e2 := Lib.hid (show ofL true true 0 0 C Qp day s h = dueL day s h 1 C ++ dueL day s h 2 Qp by unfold ofL; rw [e1.out]; simp)
            go_wp2
            go_ret2
            rw [e1.out, e2.out]
            exact ⟨_, rfl, by rw [← HL5.out]; exact ownsRow_baseZ HW5.out (by omega), HB5.out⟩
          · have g2 : (EP == 0) = false := by simpa using h2
            have e1 := Lib.hid (show ofE true true 0 EP = EP by simp [ofE, h2])
            have e2 := Lib.hid (show ofL true true 0 EP C Qp day s h = [] by unfold ofL; rw [e1.out, if_neg h2])
            go_wp2
            go_ret2
            exact ofW_nil e2.out e1.out HB5.out
        · have hb2 : b2 = false := by rw [← HB2.out]; simpa using hdm
          subst hb2
          have q1 : (day == ma) = false := by simpa using hdm
          have e1 := Lib.hid (show ofE true false 0 EP = 0 by simp [ofE])
          have e2 := Lib.hid (show ofL true false 0 EP C Qp day s h = dueL day s h 1 C by unfold ofL; rw [e1.out]; simp)
          clear hdm
          go_wp2
          go_ret2
          rw [e1.out, e2.out]
          exact ⟨_, rfl, by rw [← HLN.out]; exact ownsRow_baseZ HW.out (by omega), HBL.out⟩
      · have g1 : (EC == 0) = false := by simpa using h1
        have e1 := Lib.hid (show ofE true b2 EC EP = EC by unfold ofE; rw [if_pos ⟨rfl, h1⟩])
        have e2 := Lib.hid (show ofL true b2 EC EP C Qp day s h = [] by unfold ofL; rw [e1.out, if_neg h1])
        go_wp2
        go_ret2
        exact ofW_nil e2.out e1.out HBL.out
theorem heap_upS {w w' : World} {b : Nat} {o : Obj} (hB : Below w.heap.size w w') (h : w.heap[b]? = some o) : w'.heap[b]? = some o :=
  (hB.block b (Array.getElem?_eq_some_iff.1 h).1).trans h
/-- how many days lie in a range -/
def cntD (lo hi : Int) : List Int → Int
  | [] => 0
  | d :: L => (if inB d lo hi = true then 1 else 0) + cntD lo hi L
theorem cntD_append (lo hi : Int) (L M : List Int) : cntD lo hi (L ++ M) = cntD lo hi L + cntD lo hi M := by
  induction L with
  | nil => simp [cntD]
  | cons y L ih => simp only [List.cons_append, cntD, ih]; omega
theorem cntD_bd (lo hi : Int) : ∀ L : List Int, 0 ≤ cntD lo hi L ∧ cntD lo hi L ≤ L.length
  | [] => by simp [cntD]
  | y :: L => by
    have := cntD_bd lo hi L
    simp only [cntD, List.length_cons]
    split <;> omega
theorem cpN_bdS (id un is ma ra ev n : Int) : 0 ≤ cpN id un is ma ra ev n ∧ cpN id un is ma ra ev n ≤ 1000000000000 := by
  unfold cpN
  split
  · rename_i h
    obtain ⟨hs, h0, h1⟩ := ccE_zero h
    have a := mul_bd h0 h1 hs.ra0 hs.ra1
    have hev : 0 ≤ ev ∧ ev ≤ 12 := by have := hs.ev; omega
    have b := mul_bd a.1 a.2 hev.1 hev.2
    omega
  · omega
/-- the coupons of the years behind a day -/
def savX (x : Sec) (day years : Int) : Int := cpN x.id x.un x.is x.ma x.ra x.ev 100000 * cntD (day + 1) (day + 360 * years) (daysL x.id x.un x.is x.ma x.ra x.ev)
def savN (R : Reg) (id day years : Int) : Int :=
  if chkE R = 0 ∧ inB day 0 36000 = true ∧ inB years 0 60 = true then (match findS R.secs id with | none => 0 | some x => savX x day years) else 0
theorem amongSv_any (n lo hi : Int) (w : World) : Calls Tryz.prog 190 #[.int .i64 n, .int .i64 lo, .int .i64 hi] w fun e w' => e = .returned (.bool (inB n lo hi)) ∧ w = w' := by
  go_enter Tryz.func190, Tryz.ntmps190
  go_wp2
  all_goals (go_ret; exact ⟨ret_bool (by simp only [inB]; first | (rw [Bool.eq_iff_iff]; simp; omega) | (simp; omega)), rfl⟩)
set_option maxHeartbeats 4000000 in
set_option maxRecDepth 100000 in
theorem saved_any (P : Nat → Prop) (vs vh vm : Value) (R : Reg) (id day years : Int) (w : World) (hr : RgIn P w vs vh vm R) (hS : R.secs.length ≤ 1000000) (hH : R.hs.length ≤ 1000000) (hM : R.ms.length ≤ 1000000) :
    Calls Tryz.prog 90 #[.agg #[vs, vh, vm], .int .i64 id, .int .i64 day, .int .i64 years] w fun e w' => e = .returned (.int .i64 (savN R id day years)) ∧ Below w.heap.size w w' := by
  obtain ⟨a0, n0, c0, rfl, -, -, -⟩ := hr.S.shape
  obtain ⟨a1, n1, c1, rfl, -, -, -⟩ := hr.H.shape
  obtain ⟨a2, n2, c2, rfl, -, -, -⟩ := hr.M.shape
  obtain ⟨E0, hE0⟩ : ∃ E, chkE R = E := ⟨_, rfl⟩
  have KA := Lib.hid (fun U (hU : Below w.heap.size w U) => check_any P _ _ _ R U (hr.below hU) hS hH hM)
  rw [hE0] at KA
  have HE0 := Lib.hid hE0
  have HR := Lib.hid hr
  clear hE0 hr
  cases hf : findS R.secs id with
  | none =>
    have HV := Lib.hid (show savN R id day years = 0 by unfold savN; rw [hf]; split <;> rfl)
    have KF := Lib.hid (fun U (hU : Below w.heap.size w U) => rfind_no P _ _ _ R id U (HR.out.below hU) hS hf)
    rw [HV.out]
    clear hf
    by_cases h0 : E0 = 0
    · subst h0
      go_enter Tryz.func90, Tryz.ntmps90
      go_wp2_with fail
      refine (KF.out _ (by first | exact bal brefl _ | exact bal (bal brefl _) _)).mono ?_
      rintro e w1 ⟨rfl, hb1⟩
      have hne1 : w.heap.size < w1.heap.size := by have := hb1.size; simp only [World.size_alloc] at this; omega
      have r0 : w1.cell? ⟨w.heap.size, 0, none⟩ = some (.slice a0 n0 c0) := keepB hb1 (by first | exact World.cell?_alloc_at _ _ _ _ rfl | exact keepA (World.cell?_alloc_at _ _ _ _ rfl))
      have r1 : w1.cell? ⟨w.heap.size, 1, none⟩ = some (.slice a1 n1 c1) := keepB hb1 (by first | exact World.cell?_alloc_at _ _ _ _ rfl | exact keepA (World.cell?_alloc_at _ _ _ _ rfl))
      have r2 : w1.cell? ⟨w.heap.size, 2, none⟩ = some (.slice a2 n2 c2) := keepB hb1 (by first | exact World.cell?_alloc_at _ _ _ _ rfl | exact keepA (World.cell?_alloc_at _ _ _ _ rfl))
      have HB1 := Lib.hid (bal (bup (by first | exact bal brefl _ | exact bal (bal brefl _) _) hb1) (.cells #[.int .i64 0, .int .i64 0, .int .i64 0, .int .i64 0, .int .i64 0, .int .i64 0, .bool false] 26))
      clear hb1
      go_wp2_with fail
      refine (KA.out _ HB1.out).mono ?_
      rintro e w2 ⟨rfl, hb2⟩
      have HB2 := Lib.hid (bup HB1.out hb2)
      clear hb2
      go_wp2
      go_ret
      exact ⟨rfl, HB2.out⟩
    · have g1 : (E0 != 0) = true := by simpa using h0
      go_enter Tryz.func90, Tryz.ntmps90
      go_wp2_with fail
      refine (KF.out _ (by first | exact bal brefl _ | exact bal (bal brefl _) _)).mono ?_
      rintro e w1 ⟨rfl, hb1⟩
      have hne1 : w.heap.size < w1.heap.size := by have := hb1.size; simp only [World.size_alloc] at this; omega
      have r0 : w1.cell? ⟨w.heap.size, 0, none⟩ = some (.slice a0 n0 c0) := keepB hb1 (by first | exact World.cell?_alloc_at _ _ _ _ rfl | exact keepA (World.cell?_alloc_at _ _ _ _ rfl))
      have r1 : w1.cell? ⟨w.heap.size, 1, none⟩ = some (.slice a1 n1 c1) := keepB hb1 (by first | exact World.cell?_alloc_at _ _ _ _ rfl | exact keepA (World.cell?_alloc_at _ _ _ _ rfl))
      have r2 : w1.cell? ⟨w.heap.size, 2, none⟩ = some (.slice a2 n2 c2) := keepB hb1 (by first | exact World.cell?_alloc_at _ _ _ _ rfl | exact keepA (World.cell?_alloc_at _ _ _ _ rfl))
      have HB1 := Lib.hid (bal (bup (by first | exact bal brefl _ | exact bal (bal brefl _) _) hb1) (.cells #[.int .i64 0, .int .i64 0, .int .i64 0, .int .i64 0, .int .i64 0, .int .i64 0, .bool false] 26))
      clear hb1
      go_wp2_with fail
      refine (KA.out _ HB1.out).mono ?_
      rintro e w2 ⟨rfl, hb2⟩
      have HB2 := Lib.hid (bup HB1.out hb2)
      clear hb2
      go_wp2
      go_ret
      exact ⟨rfl, HB2.out⟩
  | some x =>
    obtain ⟨sid, un, is, ma, ra, ev, ix⟩ := x
    have KF := Lib.hid (fun U (hU : Below w.heap.size w U) => rfind_yes P _ _ _ R id sid un is ma ra ev ix U (HR.out.below hU) hS hf)
    obtain ⟨V, hV⟩ : ∃ V, savN R id day years = V := ⟨_, rfl⟩
    have hV2 := hV
    unfold savN at hV2
    rw [HE0.out, hf] at hV2
    rw [hV]
    simp only at hV2
    have HV := Lib.hid hV2
    clear hf hV hV2
    by_cases h0 : E0 = 0
    case neg =>
      have g1 : (E0 != 0) = true := by simpa using h0
      have hv0 : V = 0 := by rw [← HV.out, if_neg (fun q => h0 q.1)]
      subst hv0
      go_enter Tryz.func90, Tryz.ntmps90
      go_wp2_with fail
      refine (KF.out _ (by first | exact bal brefl _ | exact bal (bal brefl _) _)).mono ?_
      rintro e w1 ⟨rfl, hb1⟩
      have hne1 : w.heap.size < w1.heap.size := by have := hb1.size; simp only [World.size_alloc] at this; omega
      have r0 : w1.cell? ⟨w.heap.size, 0, none⟩ = some (.slice a0 n0 c0) := keepB hb1 (by first | exact World.cell?_alloc_at _ _ _ _ rfl | exact keepA (World.cell?_alloc_at _ _ _ _ rfl))
      have r1 : w1.cell? ⟨w.heap.size, 1, none⟩ = some (.slice a1 n1 c1) := keepB hb1 (by first | exact World.cell?_alloc_at _ _ _ _ rfl | exact keepA (World.cell?_alloc_at _ _ _ _ rfl))
      have r2 : w1.cell? ⟨w.heap.size, 2, none⟩ = some (.slice a2 n2 c2) := keepB hb1 (by first | exact World.cell?_alloc_at _ _ _ _ rfl | exact keepA (World.cell?_alloc_at _ _ _ _ rfl))
      have HB1 := Lib.hid (bal (bup (by first | exact bal brefl _ | exact bal (bal brefl _) _) hb1) (.cells #[.int .i64 sid, .int .i64 un, .int .i64 is, .int .i64 ma, .int .i64 ra, .int .i64 ev, .bool ix] 26))
      clear hb1
      go_wp2_with fail
      refine (KA.out _ HB1.out).mono ?_
      rintro e w2 ⟨rfl, hb2⟩
      have HB2 := Lib.hid (bup HB1.out hb2)
      clear hb2
      go_wp2
      go_ret
      exact ⟨rfl, HB2.out⟩
    subst h0
    obtain ⟨d1, hd1⟩ : ∃ b, inB day 0 36000 = b := ⟨_, rfl⟩
    obtain ⟨d2, hd2⟩ : ∃ b, inB years 0 60 = b := ⟨_, rfl⟩
    have KD := Lib.hid (amongSv_any day 0 36000)
    have KY := Lib.hid (amongSv_any years 0 60)
    rw [hd1] at KD
    rw [hd2] at KY
    have HD1 := Lib.hid hd1
    have HD2 := Lib.hid hd2
    have hv2 := HV.out
    rw [hd1, hd2] at hv2
    have HV2 := Lib.hid hv2
    clear hd1 hd2 hv2 HV
    cases d1 with
    | false =>
      have hv0 : V = 0 := by rw [← HV2.out, if_neg (fun q => by cases q.2.1)]
      subst hv0
      go_enter Tryz.func90, Tryz.ntmps90
      go_wp2_with fail
      refine (KF.out _ (by first | exact bal brefl _ | exact bal (bal brefl _) _)).mono ?_
      rintro e w1 ⟨rfl, hb1⟩
      have hne1 : w.heap.size < w1.heap.size := by have := hb1.size; simp only [World.size_alloc] at this; omega
      have r0 : w1.cell? ⟨w.heap.size, 0, none⟩ = some (.slice a0 n0 c0) := keepB hb1 (by first | exact World.cell?_alloc_at _ _ _ _ rfl | exact keepA (World.cell?_alloc_at _ _ _ _ rfl))
      have r1 : w1.cell? ⟨w.heap.size, 1, none⟩ = some (.slice a1 n1 c1) := keepB hb1 (by first | exact World.cell?_alloc_at _ _ _ _ rfl | exact keepA (World.cell?_alloc_at _ _ _ _ rfl))
      have r2 : w1.cell? ⟨w.heap.size, 2, none⟩ = some (.slice a2 n2 c2) := keepB hb1 (by first | exact World.cell?_alloc_at _ _ _ _ rfl | exact keepA (World.cell?_alloc_at _ _ _ _ rfl))
      have HB1 := Lib.hid (bal (bup (by first | exact bal brefl _ | exact bal (bal brefl _) _) hb1) (.cells #[.int .i64 sid, .int .i64 un, .int .i64 is, .int .i64 ma, .int .i64 ra, .int .i64 ev, .bool ix] 26))
      clear hb1
      go_wp2_with fail
      refine (KA.out _ HB1.out).mono ?_
      rintro e w2 ⟨rfl, hb2⟩
      have HB2 := Lib.hid (bup HB1.out hb2)
      clear hb2
      go_wp2_with fail
      refine (KD.out _).mono ?_
      rintro e w3 ⟨rfl, rfl⟩
      go_wp2
      go_ret
      exact ⟨rfl, HB2.out⟩
    | true =>
      cases d2 with
      | false =>
        have hv0 : V = 0 := by rw [← HV2.out, if_neg (fun q => by cases q.2.2)]
        subst hv0
        go_enter Tryz.func90, Tryz.ntmps90
        go_wp2_with fail
        refine (KF.out _ (by first | exact bal brefl _ | exact bal (bal brefl _) _)).mono ?_
        rintro e w1 ⟨rfl, hb1⟩
        have hne1 : w.heap.size < w1.heap.size := by have := hb1.size; simp only [World.size_alloc] at this; omega
        have r0 : w1.cell? ⟨w.heap.size, 0, none⟩ = some (.slice a0 n0 c0) := keepB hb1 (by first | exact World.cell?_alloc_at _ _ _ _ rfl | exact keepA (World.cell?_alloc_at _ _ _ _ rfl))
        have r1 : w1.cell? ⟨w.heap.size, 1, none⟩ = some (.slice a1 n1 c1) := keepB hb1 (by first | exact World.cell?_alloc_at _ _ _ _ rfl | exact keepA (World.cell?_alloc_at _ _ _ _ rfl))
        have r2 : w1.cell? ⟨w.heap.size, 2, none⟩ = some (.slice a2 n2 c2) := keepB hb1 (by first | exact World.cell?_alloc_at _ _ _ _ rfl | exact keepA (World.cell?_alloc_at _ _ _ _ rfl))
        have HB1 := Lib.hid (bal (bup (by first | exact bal brefl _ | exact bal (bal brefl _) _) hb1) (.cells #[.int .i64 sid, .int .i64 un, .int .i64 is, .int .i64 ma, .int .i64 ra, .int .i64 ev, .bool ix] 26))
        clear hb1
        go_wp2_with fail
        refine (KA.out _ HB1.out).mono ?_
        rintro e w2 ⟨rfl, hb2⟩
        have HB2 := Lib.hid (bup HB1.out hb2)
        clear hb2
        go_wp2_with fail
        refine (KD.out _).mono ?_
        rintro e w3 ⟨rfl, rfl⟩
        go_wp2_with fail
        refine (KY.out _).mono ?_
        rintro e w3 ⟨rfl, rfl⟩
        go_wp2
        go_ret
        exact ⟨rfl, HB2.out⟩
      | true =>
        have hv3 : V = savX ⟨sid, un, is, ma, ra, ev, ix⟩ day years := by rw [← HV2.out, if_pos ⟨rfl, rfl, rfl⟩]
        unfold savX at hv3
        simp only at hv3
        obtain ⟨C, hC⟩ : ∃ C, cpN sid un is ma ra ev 100000 = C := ⟨_, rfl⟩
        have hCb := cpN_bdS sid un is ma ra ev 100000
        have hdl : (daysL sid un is ma ra ev).length ≤ 1000000 := by unfold daysL; rw [List.length_map, List.length_range]; exact dayN_le sid un is ma ra ev ix
        obtain ⟨D, hD⟩ : ∃ D, daysL sid un is ma ra ev = D := ⟨_, rfl⟩
        have KC := Lib.hid (fun U => coupon_any sid un is ma ra ev ix 100000 U)
        rw [hC] at hv3 hCb KC
        rw [hD] at hv3 hdl
        have HDD := Lib.hid hD
        have HV3 := Lib.hid hv3
        obtain ⟨y0, y1⟩ := inB_iff.1 HD1.out
        obtain ⟨y2, y3⟩ := inB_iff.1 HD2.out
        clear hC hD hv3 HV2
        go_enter Tryz.func90, Tryz.ntmps90
        go_wp2_with fail
        refine (KF.out _ (by first | exact bal brefl _ | exact bal (bal brefl _) _)).mono ?_
        rintro e w1 ⟨rfl, hb1⟩
        have hne1 : w.heap.size < w1.heap.size := by have := hb1.size; simp only [World.size_alloc] at this; omega
        have r0 : w1.cell? ⟨w.heap.size, 0, none⟩ = some (.slice a0 n0 c0) := keepB hb1 (by first | exact World.cell?_alloc_at _ _ _ _ rfl | exact keepA (World.cell?_alloc_at _ _ _ _ rfl))
        have r1 : w1.cell? ⟨w.heap.size, 1, none⟩ = some (.slice a1 n1 c1) := keepB hb1 (by first | exact World.cell?_alloc_at _ _ _ _ rfl | exact keepA (World.cell?_alloc_at _ _ _ _ rfl))
        have r2 : w1.cell? ⟨w.heap.size, 2, none⟩ = some (.slice a2 n2 c2) := keepB hb1 (by first | exact World.cell?_alloc_at _ _ _ _ rfl | exact keepA (World.cell?_alloc_at _ _ _ _ rfl))
        have HB1 := Lib.hid (bal (bup (by first | exact bal brefl _ | exact bal (bal brefl _) _) hb1) (.cells #[.int .i64 sid, .int .i64 un, .int .i64 is, .int .i64 ma, .int .i64 ra, .int .i64 ev, .bool ix] 26))
        have HSB := Lib.hid (heap_alloc_new w1 (.cells #[.int .i64 sid, .int .i64 un, .int .i64 is, .int .i64 ma, .int .i64 ra, .int .i64 ev, .bool ix] 26))
        clear hb1
        go_wp2_with fail
        refine (KA.out _ HB1.out).mono ?_
        rintro e w2 ⟨rfl, hb2⟩
        have HB2 := Lib.hid (bup HB1.out hb2)
        have hs2 := heap_upS hb2 HSB.out
        have s0 := cell_heap (i := 0) hs2 rfl
        have s1 := cell_heap (i := 1) hs2 rfl
        have s2 := cell_heap (i := 2) hs2 rfl
        have s3 := cell_heap (i := 3) hs2 rfl
        have s4 := cell_heap (i := 4) hs2 rfl
        have s5 := cell_heap (i := 5) hs2 rfl
        have s6 := cell_heap (i := 6) hs2 rfl
        have hzs : w1.heap.size < w2.heap.size := World.block_lt_of_cell? _ _ s0
        have HS2 := Lib.hid hs2
        clear hb2 r0 r1 r2 hs2
        go_wp2_with fail
        refine (KD.out _).mono ?_
        rintro e w3 ⟨rfl, rfl⟩
        go_wp2_with fail
        refine (KY.out _).mono ?_
        rintro e w3 ⟨rfl, rfl⟩
        go_wp2_with fail
        refine (KC.out _).mono ?_
        rintro e w3 ⟨rfl, hb3⟩
        have HB3 := Lib.hid (bup HB2.out hb3)
        have hs3 := heap_upS hb3 HS2.out
        clear hb3 s0 s1 s2 s3 s4 s5 s6
        have s0 := cell_heap (i := 0) hs3 rfl
        have s1 := cell_heap (i := 1) hs3 rfl
        have s2 := cell_heap (i := 2) hs3 rfl
        have s3 := cell_heap (i := 3) hs3 rfl
        have s4 := cell_heap (i := 4) hs3 rfl
        have s5 := cell_heap (i := 5) hs3 rfl
        have s6 := cell_heap (i := 6) hs3 rfl
        have hzs3 : w1.heap.size < w3.heap.size := World.block_lt_of_cell? _ _ s0
        clear hs3
        go_wp2_with fail
        refine (days_any sid un is ma ra ev ix _).mono ?_
        intro e w4 hdm
        obtain ⟨v, rfl, hsl, hb4⟩ := daysMade_sl sid un is ma ra ev ix hdm
        rw [HDD.out] at hsl
        obtain ⟨ao, n, c, rfl, hn, -, -⟩ := hsl.shape
        have hn1 : n ≤ 1000000 := by omega
        have HSL := Lib.hid hsl
        have HN := Lib.hid hn
        have HB4 := Lib.hid (bup HB3.out hb4)
        clear hdm hsl hb4 hn hdl s0 s1 s2 s3 s4 s5 s6
        go_wp2
        go_loopw [13, 47] (fun sv iv wr => ∃ (k : Nat) (q : Int), k ≤ n ∧ iv = .int .i64 k ∧ q = cntD (day + 1) (day + 360 * years) (D.take k) ∧ sv = .int .i64 (C * q) ∧ wr = w4) (fun _ iv _ => n - (intOf iv).toNat)
        case atStart => exact ⟨0, 0, by omega, rfl, rfl, by simp, rfl⟩
        case round =>
          obtain ⟨k, q, hk, rfl, hq, rfl, rfl⟩ := hrel
          have hqb := cntD_bd (day + 1) (day + 360 * years) (D.take k)
          rw [← hq] at hqb
          have htl : (D.take k).length ≤ k := by rw [List.length_take]; omega
          obtain ⟨m0, m1⟩ := mul_bd hCb.1 hCb.2 hqb.1 (show q ≤ 1000000 by omega)
          have HQ := Lib.hid hq
          clear hq htl
          by_cases hlt : k < n
          · obtain ⟨b, off, a, rfl, -, hb', hL, k0⟩ := HSL.out.int hlt
            have hsn := take_snocZ hL
            have hw1 : wrap64 (day + 1) = day + 1 := IntWalk.wrap64_in _ (by omega)
            have hw2 : wrap64 (360 * years) = 360 * years := IntWalk.wrap64_in _ (by omega)
            have hw3 : wrap64 (day + 360 * years) = day + 360 * years := IntWalk.wrap64_in _ (by omega)
            obtain ⟨bb, hbb⟩ : ∃ b, inB a (day + 1) (day + 360 * years) = b := ⟨_, rfl⟩
            have KAM := Lib.hid (amongSv_any a (day + 1) (day + 360 * years))
            rw [hbb] at KAM
            have HSN := Lib.hid hsn
            have HBB := Lib.hid hbb
            clear hsn hbb hL
            cases bb with
            | true =>
              have hnx := Lib.hid (show q + 1 = cntD (day + 1) (day + 360 * years) (D.take (k + 1)) by rw [HSN.out, cntD_append, ← HQ.out]; simp [cntD, HBB.out])
              have hmul := Lib.hid (show C * (q + 1) = C * q + C by rw [Int.mul_add, Int.mul_one])
              obtain ⟨X, hX⟩ : ∃ X, C * q = X := ⟨_, rfl⟩
              rw [hX] at m0 m1 hmul ⊢
              clear hX
              go_wp2_with fail
              refine (KAM.out _).mono ?_
              rintro e w5 ⟨rfl, rfl⟩
              go_wp2
              go_roundw
              case rel => exact ⟨k + 1, q + 1, by omega, by go_num, hnx.out, by rw [hmul.out], by first | rfl | trivial⟩
              case measure => simp [intOf]; omega
            | false =>
              have hnx := Lib.hid (show q = cntD (day + 1) (day + 360 * years) (D.take (k + 1)) by rw [HSN.out, cntD_append, ← HQ.out]; simp [cntD, HBB.out])
              obtain ⟨X, hX⟩ : ∃ X, C * q = X := ⟨_, rfl⟩
              rw [hX] at m0 m1 ⊢
              go_wp2_with fail
              refine (KAM.out _).mono ?_
              rintro e w5 ⟨rfl, rfl⟩
              go_wp2
              go_roundw
              case rel => exact ⟨k + 1, q, by omega, by go_num, hnx.out, by rw [hX], by first | rfl | trivial⟩
              case measure => simp [intOf]; omega
          · have hfin : C * q = V := by rw [HV3.out, HQ.out, take_all (by have := HN.out; omega)]
            rw [hfin]
            clear m0 m1
            go_wp2
            go_ret
            exact ⟨rfl, HB4.out⟩
def svD38 : List Int := [180, 360, 540, 720, 900, 1080, 1260, 1440, 1620, 1800]
theorem days38 {un ra : Int} (h : UnR38 un ra) : daysL 1 un 0 1800 ra 6 = svD38 := by
  obtain ⟨h1, h2⟩ := ur_cases h
  rcases h1 with rfl | rfl | rfl | rfl <;> rcases h2 with rfl | rfl <;> kernel_rfl
theorem cpn38 {un ra : Int} (h : UnR38 un ra) : cpN 1 un 0 1800 ra 6 100000 = ra / 2 ∧ ccE 1 un 0 1800 ra 6 100000 = 0 := by
  obtain ⟨h1, h2⟩ := ur_cases h
  rcases h1 with rfl | rfl | rfl | rfl <;> rcases h2 with rfl | rfl <;> exact ⟨by kernel_rfl, by kernel_rfl⟩
/-- what is saved in some years -/
def svY (ra k y : Int) : Int := ra / 2 * cntD (k + 1) (k + 360 * y) svD38
theorem sav38 {un ra : Int} {L : List Int} (h : EAt un ra L) {k y : Int} (hk : 0 ≤ k ∧ k ≤ 255) (hy : 0 ≤ y ∧ y ≤ 6) : savN (eR un ra L) 1 k y = svY ra k y := by
  unfold savN
  rw [if_pos ⟨chkE_iff.2 h.ok, inB_iff.2 (by omega), inB_iff.2 (by omega)⟩]
  have hf : findS (eR un ra L).secs 1 = some (m38S un ra) := by simp [eR, findS, m38S]
  rw [hf]
  simp only
  unfold savX svY
  simp only [m38S]
  rw [(cpn38 h.ur).1, days38 h.ur]
theorem sav38_no {un ra : Int} {L : List Int} (h : EAt un ra L) (k y : Int) : savN (eR un ra L) 9 k y = 0 := by
  unfold savN
  have hf : findS (eR un ra L).secs 9 = none := by simp [eR, findS, m38S]
  rw [hf]
  split <;> rfl
theorem cntD_mono (lo : Int) {hi hi' : Int} (h : hi ≤ hi') : ∀ L : List Int, cntD lo hi L ≤ cntD lo hi' L
  | [] => by simp [cntD]
  | d :: L => by
    have ih := cntD_mono lo h L
    simp only [cntD]
    by_cases h1 : inB d lo hi = true
    · have h2 : inB d lo hi' = true := inB_iff.2 (by have := inB_iff.1 h1; omega)
      rw [if_pos h1, if_pos h2]; omega
    · rw [if_neg h1]
      split <;> omega
theorem cntD_none {lo hi : Int} (h : hi < lo) : ∀ L : List Int, cntD lo hi L = 0
  | [] => rfl
  | d :: L => by
    have h1 : ¬ inB d lo hi = true := fun q => by have := inB_iff.1 q; omega
    simp only [cntD, cntD_none h L]
    rw [if_neg h1]; rfl
theorem svY_zero (ra k : Int) : svY ra k 0 = 0 := by
  unfold svY
  rw [cntD_none (by omega), Int.mul_zero]
theorem svY_mono {ra k y y' : Int} (hr : 0 ≤ ra) (h : y ≤ y') : svY ra k y ≤ svY ra k y' := by
  unfold svY
  exact Int.mul_le_mul_of_nonneg_left (cntD_mono _ (by omega) _) (by omega)
theorem svY_bd {ra k y : Int} (hr : 0 ≤ ra) (hr2 : ra ≤ 5000) : 0 ≤ svY ra k y ∧ svY ra k y ≤ 25000 := by
  unfold svY
  have h := cntD_bd (k + 1) (k + 360 * y) svD38
  have hl : (svD38.length : Int) = 10 := rfl
  rw [hl] at h
  obtain ⟨a, b⟩ := mul_bd (show 0 ≤ ra / 2 by omega) (show ra / 2 ≤ 2500 by omega) h.1 h.2
  omega
/-- a day still to come -/
theorem late38 {k d : Int} (hd : d ∈ svD38) (hk : 0 ≤ k) : (inB d (k + 1) (k + 360 * 6) = true) ↔ k < d := by
  have : d ≤ 1800 := by simp [svD38] at hd; omega
  rw [inB_iff]; omega
/-- the source at block sb: its list has at most 900 numbers, of which k are given out -/
def SrcOk (w : World) (sb : Nat) : Prop :=
  ∃ (ao : Option Addr) (m c k : Nat), w.cell? ⟨sb, 0, none⟩ = some (.slice ao m c) ∧ w.cell? ⟨sb, 1, none⟩ = some (.int .i64 k) ∧ w.frozen? ⟨sb, 1, none⟩ = false ∧ m ≤ 900 ∧ k ≤ m ∧
    (m = 0 ∨ ∃ b off, ao = some ⟨b, off, none⟩ ∧ b < sb ∧ ∀ i, i < m → ∃ z : Int, w.cell? ⟨b, off + i, none⟩ = some (.int .i64 z))

/-- what a draw leaves: a number with P, and the source -/
def Drew (P : Int → Prop) (sb : Nat) (w : World) (e : Ending) (w' : World) : Prop :=
  ∃ v : Int, P v ∧ e = .returned (.int .i64 v) ∧ SrcOk w' sb ∧ w.grownBy w' (some sb)

theorem grownBy_drewN (w : World) (n : Nat) (row : Option Nat) : w.grownBy (w.drewN n) row := ⟨rfl, rfl, rfl, Nat.le_refl _, fun _ _ _ => rfl⟩
theorem srcOk_drewN {w : World} {sb : Nat} (h : SrcOk w sb) (n : Nat) : SrcOk (w.drewN n) sb := h

theorem n_end (sb m c k : Nat) (ao : Option Addr) (n : Int) (w : World) (h0 : w.cell? ⟨sb, 0, none⟩ = some (.slice ao m c)) (h1 : w.cell? ⟨sb, 1, none⟩ = some (.int .i64 k)) (hk : (m : Int) ≤ k) :
    Calls Tryz.prog 19 #[.pointer (some ⟨sb, 0, none⟩), .int .i64 n] w fun e w' => e = .returned (.int .i64 0) ∧ ∃ nq, w' = w.drewN nq := by
  have hd : decide ((m : Int) ≤ (k : Int)) = true := by simp; omega
  go_enter Tryz.func19, Tryz.ntmps19
  go_wp2
  go_quiet (fail)
  go_wp2
  go_ret
  exact ⟨rfl, _, rfl⟩
theorem n_low (sb m c k : Nat) (ao : Option Addr) (n : Int) (w : World) (h0 : w.cell? ⟨sb, 0, none⟩ = some (.slice ao m c)) (h1 : w.cell? ⟨sb, 1, none⟩ = some (.int .i64 k)) (hk : (k : Int) < m) (hn : n < 1) :
    Calls Tryz.prog 19 #[.pointer (some ⟨sb, 0, none⟩), .int .i64 n] w fun e w' => e = .returned (.int .i64 0) ∧ ∃ nq, w' = w.drewN nq := by
  have hd : decide (m ≤ k) = false := by simp; omega
  go_enter Tryz.func19, Tryz.ntmps19
  go_wp2
  go_quiet (fail)
  go_wp2
  go_ret
  exact ⟨rfl, _, rfl⟩
theorem grownBy_setCell (w : World) (b o : Nat) (v : Value) : w.grownBy (w.setCell ⟨b, o, none⟩ v) (some b) :=
  ⟨rfl, rfl, rfl, by simp [World.setCell], fun k _ hne => Below.heap_setCell _ _ _ _ (fun h => hne (by rw [h]))⟩
theorem drew_mk {P : Int → Prop} {sb : Nat} {w w' : World} {v : Int} (hv : P v) (hs : SrcOk w' sb) (hg : w.grownBy w' (some sb)) : Drew P sb w (.returned (.int .i64 v)) w' := ⟨v, hv, rfl, hs, hg⟩
set_option maxHeartbeats 400000 in
theorem n_mid (sb m c k b off : Nat) (n z : Int) (w : World) (h0 : w.cell? ⟨sb, 0, none⟩ = some (.slice (some ⟨b, off, none⟩) m c)) (h1 : w.cell? ⟨sb, 1, none⟩ = some (.int .i64 k)) (h2 : w.frozen? ⟨sb, 1, none⟩ = false)
    (hk : (k : Int) < m) (hm : m ≤ 900) (hn : 1 ≤ n) (hn2 : n ≤ 4000000000000000000) (hb : ¬ b = sb) (hz : w.cell? ⟨b, off + k, none⟩ = some (.int .i64 z)) (S : Hid (SrcOk (w.setCell ⟨sb, 1, none⟩ (.int .i64 (k + 1))) sb)) :
    Calls Tryz.prog 19 #[.pointer (some ⟨sb, 0, none⟩), .int .i64 n] w (Drew (fun v => 0 ≤ v ∧ v < n) sb w) := by
  have hd : decide (m ≤ k) = false := by simp; omega
  have t1 : - n < z.tmod n := by have := Int.lt_tmod_of_pos z (show 0 < n by omega); omega
  have t2 : z.tmod n < n := Int.tmod_lt_of_pos _ (by omega)
  go_enter Tryz.func19, Tryz.ntmps19
  go_wp2
  go_quiet (fail)
  go_wp2
  go_quiet (fail)
  go_wp2
  go_ret
  exact drew_mk ⟨Int.emod_nonneg _ (by omega), Int.emod_lt_of_pos _ (by omega)⟩ S.out (by have g := grownBy_setCell w sb 1 (.int .i64 ((k : Int) + 1)); exact ⟨g.os, g.tape, g.output, g.size, g.block⟩)

/-- N gives a number from 0 to n - 1, or 0 -/
theorem n_any (sb : Nat) (n : Int) (w : World) (hs : SrcOk w sb) (hn2 : n ≤ 4000000000000000000) :
    Calls Tryz.prog 19 #[.pointer (some ⟨sb, 0, none⟩), .int .i64 n] w (Drew (fun v => 0 ≤ v ∧ (v < n ∨ v = 0)) sb w) := by
  obtain ⟨ao, m, c, k, h0, h1, h2, h3, h4, h5⟩ := id hs
  by_cases hk : m ≤ k
  · refine (n_end sb m c k ao n w h0 h1 (by omega)).mono ?_
    rintro e w' ⟨rfl, nq, rfl⟩
    exact drew_mk ⟨by omega, .inr rfl⟩ hs (grownBy_drewN _ _ _)
  · by_cases hn : n < 1
    · refine (n_low sb m c k ao n w h0 h1 (by omega) hn).mono ?_
      rintro e w' ⟨rfl, nq, rfl⟩
      exact drew_mk ⟨by omega, .inr rfl⟩ hs (grownBy_drewN _ _ _)
    · rcases h5 with h5 | ⟨b, off, rfl, hb, hz⟩
      · omega
      · obtain ⟨z, hz0⟩ := hz k (by omega)
        refine (n_mid sb m c k b off n z w h0 h1 h2 (by omega) h3 (by omega) hn2 (by omega) hz0 ?_).mono ?_
        · refine ⟨some ⟨b, off, none⟩, m, c, k + 1, ?_, ?_, ?_, h3, by omega, .inr ⟨b, off, rfl, hb, fun i hi => ?_⟩⟩
          · exact (World.cell?_setCell_other w _ _ _ (by simp)).trans h0
          · exact World.cell?_setCell_same w _ _ h1
          · rw [World.frozen?_setCell]; exact h2
          · obtain ⟨z', hz'⟩ := hz i hi
            exact ⟨z', (World.cell?_setCell_other w _ _ _ (by simp)).trans hz'⟩
        · rintro e w' ⟨v, ⟨v0, v1⟩, he, hS, hG⟩
          exact ⟨v, ⟨v0, .inl v1⟩, he, hS, hG⟩

theorem below_of_grown {B sb : Nat} {w w' : World} (hg : w.grownBy w' (some sb)) (h1 : B ≤ sb) (h2 : B ≤ w.heap.size) : Below B w w' := (Below.refl _ _).grown hg h2 (fun k hk => by cases hk; exact h1)
theorem drew_weaken {P P' : Int → Prop} {sb : Nat} {w w' : World} {e : Ending} (h : Drew P sb w e w') (hp : ∀ v, P v → P' v) : Drew P' sb w e w' := by
  obtain ⟨v, hv, r⟩ := h
  exact ⟨v, hp v hv, r⟩

set_option maxHeartbeats 400000 in
theorem pick_any (sb g : Nat) (L : List Int) (m c : Nat) (w : World) (hs : SrcOk w sb) (hgs : ¬ g = sb) (hm : 0 < m) (hm2 : m ≤ 1000) (hL : L.length = m) (hc : ∀ i, (h : i < L.length) → w.cell? ⟨g, i, none⟩ = some (.int .i64 L[i])) :
    Calls Tryz.prog 20 #[.pointer (some ⟨sb, 0, none⟩), .slice (some ⟨g, 0, none⟩) m c] w (Drew (fun v => v ∈ L) sb w) := by
  have HC := Lib.hid hc
  have HL := Lib.hid hL
  clear hc hL
  go_enter Tryz.func20, Tryz.ntmps20
  go_wp2_with fail
  refine (n_any sb _ _ hs (by omega)).mono ?_
  rintro e w' ⟨v, ⟨v0, v1⟩, rfl, hS, hG⟩
  obtain ⟨k, rfl⟩ := Int.eq_ofNat_of_zero_le v0
  have hkm : k < m := by omega
  obtain ⟨x, hx, hxm⟩ : ∃ x, w'.cell? ⟨g, k, none⟩ = some (.int .i64 x) ∧ x ∈ L := ⟨L[k]'(by rw [HL.out]; exact hkm), hG.cell (HC.out k (by rw [HL.out]; exact hkm)) (by simp [hgs]), List.getElem_mem _⟩
  have HX := Lib.hid hxm
  clear hxm v1 v0
  go_wp2
  go_ret
  exact drew_mk HX.out hS hG
theorem grownBy_trans {a b c : World} {row : Option Nat} (h : a.grownBy b row) (k : b.grownBy c row) : a.grownBy c row :=
  ⟨k.os.trans h.os, k.tape.trans h.tape, k.output.trans h.output, Nat.le_trans h.size k.size, fun i hi hne => (k.block i (Nat.lt_of_lt_of_le hi h.size) hne).trans (h.block i hi hne)⟩
theorem srcOk_grown {w w' : World} {sb : Nat} (h : SrcOk w sb) (hg : w.grownBy w' none) : SrcOk w' sb := by
  obtain ⟨ao, m, c, k, h0, h1, h2, h3, h4, h5⟩ := h
  refine ⟨ao, m, c, k, hg.cell h0 (by simp), hg.cell h1 (by simp), ?_, h3, h4, ?_⟩
  · rw [World.frozen?_of_block (hg.block sb (World.block_lt_of_cell? w _ h0) (by simp))]; exact h2
  · rcases h5 with h5 | ⟨b, off, rfl, hb, hz⟩
    · exact .inl h5
    · refine .inr ⟨b, off, rfl, hb, fun i hi => ?_⟩
      obtain ⟨z, hz'⟩ := hz i hi
      exact ⟨z, hg.cell hz' (by simp)⟩
theorem srcOk_alloc {w : World} {sb : Nat} (h : SrcOk w sb) (o : Obj) : SrcOk (w.alloc o) sb := srcOk_grown h (World.grownBy_alloc w o none)
theorem srcOk_below {B : Nat} {w w' : World} {sb : Nat} (h : SrcOk w sb) (hb : Below B w w') (hB : sb < B) : SrcOk w' sb := by
  obtain ⟨ao, m, c, k, h0, h1, h2, h3, h4, h5⟩ := h
  refine ⟨ao, m, c, k, (hb.cell (by exact hB)).trans h0, (hb.cell (by exact hB)).trans h1, (hb.frozen (by exact hB)).trans h2, h3, h4, ?_⟩
  rcases h5 with h5 | ⟨b, off, rfl, hlt, hz⟩
  · exact .inl h5
  · refine .inr ⟨b, off, rfl, hlt, fun i hi => ?_⟩
    obtain ⟨z, hz'⟩ := hz i hi
    exact ⟨z, (hb.cell (Nat.lt_trans hlt hB)).trans hz'⟩
theorem srcOk_lt {w : World} {sb : Nat} (h : SrcOk w sb) : sb < w.heap.size := by
  obtain ⟨ao, m, c, k, h0, _⟩ := h
  exact World.block_lt_of_cell? w _ h0
/-- the cells of a new box, behind a step of the source -/
theorem box_cell {w w3 : World} {C : Array Value} {T : TypeId} {sb : Nat} (hG : (w.alloc (.cells C T)).grownBy w3 (some sb)) (hs : sb < w.heap.size) (i : Nat) {v : Value} (hv : C[i]? = some v) : w3.cell? ⟨w.heap.size, i, none⟩ = some v :=
  hG.cell (by rw [World.cell?_alloc_at _ _ _ _ rfl]; exact hv) (by simp; omega)
theorem box_frozen {w w3 : World} {C : Array Value} {T : TypeId} {sb : Nat} (hG : (w.alloc (.cells C T)).grownBy w3 (some sb)) (hs : sb < w.heap.size) (o : Nat) : w3.frozen? ⟨w.heap.size, o, none⟩ = false :=
  (World.frozen?_of_block (hG.block w.heap.size (by simp) (by simp; omega))).trans (World.frozen?_alloc_at _ _ _ _ rfl)
theorem drew_back {P : Int → Prop} {sb : Nat} {w : World} {o : Obj} {e : Ending} {w' : World} (h : Drew P sb (w.alloc o) e w') : Drew P sb w e w' := by
  obtain ⟨v, hv, he, hS, hG⟩ := h
  exact ⟨v, hv, he, hS, grownBy_trans (World.grownBy_alloc w o _) hG⟩

/-- Pick at a literal list -/
theorem pick_lit (sb : Nat) (L : List Int) (C : Array Value) (g m : Nat) (w : World) (hs : SrcOk w sb) (hm : 0 < m) (hm2 : m ≤ 1000) (hL : L.length = m) (hC : C = (L.map (Value.int .i64)).toArray) (hg : g = w.heap.size) :
    Calls Tryz.prog 20 #[.pointer (some ⟨sb, 0, none⟩), .slice (some ⟨g, 0, none⟩) m m] (w.alloc (.cells C 3)) (Drew (fun v => v ∈ L) sb w) := by
  have hlt := srcOk_lt hs
  subst hC
  subst hg
  refine (pick_any sb w.heap.size L m m _ (srcOk_alloc hs _) (by omega) hm hm2 hL ?_).mono fun e w' h => drew_back h
  intro i hi
  rw [World.cell?_alloc_at _ _ _ _ rfl]
  simp [hi]

/-- Range gives a number from lo to hi -/
theorem range_any (sb : Nat) (lo hi : Int) (w : World) (hs : SrcOk w sb) (h1 : lo ≤ hi) (h2 : -1000000000000000000 ≤ lo) (h3 : hi ≤ 1000000000000000000) :
    Calls Tryz.prog 28 #[.pointer (some ⟨sb, 0, none⟩), .int .i64 lo, .int .i64 hi] w (Drew (fun v => lo ≤ v ∧ v ≤ hi) sb w) := by
  go_enter Tryz.func28, Tryz.ntmps28
  go_wp2_with fail
  refine (n_any sb _ _ hs (by omega)).mono ?_
  rintro e w' ⟨v, ⟨v0, v1⟩, rfl, hS, hG⟩
  go_wp2
  go_ret
  exact drew_mk ⟨by omega, by omega⟩ hS hG

/-- what New leaves -/
def Newed (w : World) (e : Ending) (w' : World) : Prop := ∃ sb, e = .returned (.pointer (some ⟨sb, 0, none⟩)) ∧ w.heap.size ≤ sb ∧ SrcOk w' sb ∧ Below w.heap.size w w'
theorem newed_mk {ao : Option Addr} {m c : Nat} {w : World} (hm : m ≤ 900) (hz : m = 0 ∨ ∃ b off, ao = some ⟨b, off, none⟩ ∧ ∀ i, i < m → ∃ z : Int, w.cell? ⟨b, off + i, none⟩ = some (.int .i64 z)) :
    Newed w (.returned (.pointer (some ⟨w.heap.size, 0, none⟩))) (w.alloc (.cells #[.slice ao m c, .int .i64 0] 161)) := by
  refine ⟨w.heap.size, rfl, Nat.le_refl _, ⟨ao, m, c, 0, ?_, ?_, ?_, hm, Nat.zero_le _, ?_⟩, (Below.refl _ _).alloc (Nat.le_refl _) _⟩
  · rw [World.cell?_alloc_at _ _ _ _ rfl]; rfl
  · rw [World.cell?_alloc_at _ _ _ _ rfl]; rfl
  · exact World.frozen?_alloc_at _ _ _ _ rfl
  · rcases hz with hz | ⟨b, off, rfl, hz⟩
    · exact .inl hz
    · by_cases h0 : m = 0
      · exact .inl h0
      · obtain ⟨z0, hz0⟩ := hz 0 (by omega)
        have hb := World.block_lt_of_cell? w _ hz0
        refine .inr ⟨b, off, rfl, hb, fun i hi => ?_⟩
        obtain ⟨z, hz'⟩ := hz i hi
        exact ⟨z, (World.cell?_alloc_past _ _ _ hb).trans hz'⟩
/-- New makes a source of the first 900 numbers -/
theorem new_any (ao : Option Addr) (m c : Nat) (w : World) (hm : m ≤ c) (hc : c ≤ maxLen) (hz : m = 0 ∨ ∃ b off, ao = some ⟨b, off, none⟩ ∧ ∀ i, i < m → ∃ z : Int, w.cell? ⟨b, off + i, none⟩ = some (.int .i64 z)) :
    Calls Tryz.prog 16 #[.slice ao m c] w (Newed w) := by
  unfold maxLen at hc
  have HZ := Lib.hid hz
  clear hz
  go_enter Tryz.func16, Tryz.ntmps16
  go_wp2
  · go_ret
    refine newed_mk (by omega) ?_
    rcases HZ.out with h | ⟨b, off, h, hz⟩
    · omega
    · exact .inr ⟨b, off, h, fun i hi => hz i (by omega)⟩
  · go_ret
    exact newed_mk (by omega) HZ.out

/-- the argument of a law, a slice of integers, as New takes it -/
theorem isRow_new {k : Option Addr} {len cap : Nat} {zs : List Int} {w : World}
    (h : (k = none ∧ len = 0 ∧ cap = 0 ∧ zs = []) ∨ ∃ x, k = some x ∧ len ≤ cap ∧ cap ≤ maxLen ∧ zs.length = cap ∧ (∀ i, i < zs.length → w.cell? (x.add i) = some (.int .i64 (zs.getD i 0))) ∧ ∀ n ∈ zs, (Lit.int .i64 n).wf = true) :
    len ≤ cap ∧ cap ≤ maxLen ∧ (len = 0 ∨ ∃ b off, k = some ⟨b, off, none⟩ ∧ ∀ i, i < len → ∃ z : Int, w.cell? ⟨b, off + i, none⟩ = some (.int .i64 z)) := by
  rcases h with ⟨rfl, rfl, rfl, rfl⟩ | ⟨x, rfl, hl, hm, hz, hcell, _⟩
  · exact ⟨Nat.le_refl _, Nat.zero_le _, .inl rfl⟩
  · refine ⟨hl, hm, ?_⟩
    by_cases h0 : len = 0
    · exact .inl h0
    · obtain ⟨b, off, spot⟩ := x
      have hc := hcell 0 (by omega)
      have hspot : spot = none := by simpa [Addr.add] using World.cell?_spot hc
      subst hspot
      refine .inr ⟨b, off, rfl, fun i hi => ⟨zs.getD i 0, ?_⟩⟩
      have := hcell i (by omega)
      by_cases hi0 : i = 0
      · subst hi0; simpa [Addr.add] using this
      · simpa [Addr.add, hi0] using this
/-- a security that Src.Security may give -/
structure SecLike (un is ma ra ev : Int) : Prop where
  hun : un ∈ ([1, 10, 100] : List Int)
  his : is ∈ ([0, 30, 90, 100] : List Int)
  hra : ra ∈ ([0, 1000, 2500, 5000] : List Int)
  hev : ev ∈ ([0, 1, 3, 6, 12] : List Int)
  hz : ev = 0 → ra = 0
  hma : ∃ k : Int, 1 ≤ k ∧ k ≤ 5 ∧ ma = is + 30 * (max ev 1) * k
/-- what Src.Security leaves -/
def Secured (sb : Nat) (id : Int) (w : World) (e : Ending) (w' : World) : Prop :=
  ∃ un is ma ra ev : Int, ∃ ix : Bool, SecLike un is ma ra ev ∧ e = .returned (.agg #[.int .i64 id, .int .i64 un, .int .i64 is, .int .i64 ma, .int .i64 ra, .int .i64 ev, .bool ix]) ∧ SrcOk w' sb ∧ w.grownBy w' (some sb)

/-- behind a step of the source, and writes from a block on -/
theorem src_end {w w5 w7 W : World} {O O2 : Obj} {sb : Nat} (h5 : (w.alloc O).grownBy w5 (some sb)) (h7 : (w5.alloc O2).grownBy w7 (some sb)) (hS : SrcOk w7 sb) (hb : Below w.heap.size w7 W) (hlt : sb < w.heap.size) : SrcOk W sb ∧ w.grownBy W (some sb) := by
  have g5 : w.grownBy w5 (some sb) := grownBy_trans (World.grownBy_alloc w O _) h5
  have g7 : w.grownBy w7 (some sb) := grownBy_trans g5 (grownBy_trans (World.grownBy_alloc w5 O2 _) h7)
  exact ⟨srcOk_below hS hb hlt, hb.os.trans g7.os, hb.tape.trans g7.tape, hb.output.trans g7.output, Nat.le_trans g7.size hb.size, fun k hk hne => (hb.block k hk).trans (g7.block k hk hne)⟩
theorem below_set7 (w : World) (B : Nat) (v0 v1 v2 v3 v4 v5 v6 : Value) : Below B w (((((((w.setCell ⟨B, 0, none⟩ v0).setCell ⟨B, 1, none⟩ v1).setCell ⟨B, 2, none⟩ v2).setCell ⟨B, 3, none⟩ v3).setCell ⟨B, 4, none⟩ v4).setCell ⟨B, 5, none⟩ v5).setCell ⟨B, 6, none⟩ v6) :=
  (((((((Below.refl B w).setCell (Nat.le_refl _) _).setCell (Nat.le_refl _) _).setCell (Nat.le_refl _) _).setCell (Nat.le_refl _) _).setCell (Nat.le_refl _) _).setCell (Nat.le_refl _) _).setCell (Nat.le_refl _) _
theorem keep_cell {w5 w7 : World} {O : Obj} {sb b i : Nat} {v : Value} (h7 : (w5.alloc O).grownBy w7 (some sb)) (h : w5.cell? ⟨b, i, none⟩ = some v) (hb : b ≠ sb) : w7.cell? ⟨b, i, none⟩ = some v :=
  h7.cell ((World.cell?_alloc_past _ _ _ (World.block_lt_of_cell? w5 _ h)).trans h) (by simpa using hb)
theorem keep_frozen {w5 w7 : World} {O : Obj} {sb b i : Nat} (h7 : (w5.alloc O).grownBy w7 (some sb)) (hlt : b < w5.heap.size) (h : w5.frozen? ⟨b, i, none⟩ = false) (hb : b ≠ sb) : w7.frozen? ⟨b, i, none⟩ = false := by
  have e := h7.block b (by simp; omega) (by simpa using hb)
  rw [Below.heap_alloc _ _ _ hlt] at e
  exact (World.frozen?_of_block (a := ⟨b, i, none⟩) e).trans h
theorem secured_mk {sb : Nat} {id : Int} {w w5 w7 : World} {O O2 : Obj} {un is ma ra ev : Int} {ix : Bool} {M v0 v1 v2 v3 v4 v5 v6 : Value} (hl : SecLike un is ma ra ev) (hS : SrcOk w7 sb) (hlt : sb < w.heap.size) (h5 : (w.alloc O).grownBy w5 (some sb)) (h7 : (w5.alloc O2).grownBy w7 (some sb)) :
    Secured sb id w (.returned (.agg #[.int .i64 id, .int .i64 un, .int .i64 is, .int .i64 ma, .int .i64 ra, .int .i64 ev, .bool ix])) ((((((((w7.setCell ⟨w5.heap.size, 3, none⟩ M).setCell ⟨w.heap.size, 0, none⟩ v0).setCell ⟨w.heap.size, 1, none⟩ v1).setCell ⟨w.heap.size, 2, none⟩ v2).setCell ⟨w.heap.size, 3, none⟩ v3).setCell ⟨w.heap.size, 4, none⟩ v4).setCell ⟨w.heap.size, 5, none⟩ v5).setCell ⟨w.heap.size, 6, none⟩ v6) := by
  have z := h5.size
  simp only [World.size_alloc] at z
  have e := src_end h5 h7 hS (((Below.refl w.heap.size w7).setCell (p := ⟨w5.heap.size, 3, none⟩) (by show w.heap.size ≤ w5.heap.size; omega) M).trans (below_set7 _ _ v0 v1 v2 v3 v4 v5 v6)) hlt
  exact ⟨un, is, ma, ra, ev, ix, hl, rfl, e.1, e.2⟩
theorem grownBy_undrew {w w' : World} {row : Option Nat} (h : w.drew.grownBy w' row) : w.grownBy w' row := ⟨h.os, h.tape, h.output, h.size, h.block⟩
set_option maxHeartbeats 1000000 in
theorem srcsec_any (sb : Nat) (id : Int) (w : World) (hs : SrcOk w sb) : Calls Tryz.prog 27 #[.pointer (some ⟨sb, 0, none⟩), .int .i64 id] w (Secured sb id w) := by
  have hlt := srcOk_lt hs
  go_enter Tryz.func27, Tryz.ntmps27
  go_wp2_with fail
  refine (pick_lit sb [1, 10, 100] _ _ _ _ (srcOk_alloc hs _) (by decide) (by decide) rfl rfl (by simp)).mono ?_
  rintro e w1 ⟨un, hun, rfl, hS1, hG1⟩
  go_wp2_with fail
  refine (pick_lit sb [0, 30, 90, 100] _ _ _ _ hS1 (by decide) (by decide) rfl rfl rfl).mono ?_
  rintro e w2 ⟨is, his, rfl, hS2, hG2⟩
  have i0 : 0 ≤ is ∧ is ≤ 100 := by simp at his; omega
  go_wp2_with fail
  refine (pick_lit sb [0, 1000, 2500, 5000] _ _ _ _ hS2 (by decide) (by decide) rfl rfl rfl).mono ?_
  rintro e w3 ⟨ra, hra, rfl, hS3, hG3⟩
  go_wp2_with fail
  refine (pick_lit sb [0, 1, 3, 6, 12] _ _ _ _ hS3 (by decide) (by decide) rfl rfl rfl).mono ?_
  rintro e w4 ⟨ev, hev, rfl, hS4, hG4⟩
  have v0 : 0 ≤ ev ∧ ev ≤ 12 := by simp at hev; omega
  go_wp2_with fail
  refine (n_any sb _ _ hS4 (by omega)).mono ?_
  rintro e w5 ⟨q, hq, rfl, hS5, hG5⟩
  have g : World.grownBy _ w5 (some sb) := grownBy_trans hG1 (grownBy_trans hG2 (grownBy_trans hG3 (grownBy_trans hG4 hG5)))
  have z := g.size
  simp only [World.size_alloc] at z
  have HG := Lib.hid g
  have HH := Lib.hid (And.intro hun (And.intro his (And.intro hra hev)))
  have k0 : w5.cell? ⟨w.heap.size, 0, none⟩ = some (.int .i64 0) := box_cell g hlt 0 rfl
  have k1 : w5.cell? ⟨w.heap.size, 1, none⟩ = some (.int .i64 0) := box_cell g hlt 1 rfl
  have k2 : w5.cell? ⟨w.heap.size, 2, none⟩ = some (.int .i64 0) := box_cell g hlt 2 rfl
  have k3 : w5.cell? ⟨w.heap.size, 3, none⟩ = some (.int .i64 0) := box_cell g hlt 3 rfl
  have k4 : w5.cell? ⟨w.heap.size, 4, none⟩ = some (.int .i64 0) := box_cell g hlt 4 rfl
  have k5 : w5.cell? ⟨w.heap.size, 5, none⟩ = some (.int .i64 0) := box_cell g hlt 5 rfl
  have k6 : w5.cell? ⟨w.heap.size, 6, none⟩ = some (.bool false) := box_cell g hlt 6 rfl
  have kf := box_frozen g hlt
  clear hG1 hG2 hG3 hG4 hG5 g hun his hra hev hS1 hS2 hS3 hS4 hq
  go_wp2_with fail
  · have e0 : ev = 0 := by simpa using (by assumption : (ev == 0) = true)
    subst e0
    have hl5 := srcOk_lt hS5
    go_region_held3 (fun w' => w'.cell? ⟨w5.heap.size, 2, none⟩ = some (.int .i64 is) ∧ w'.cell? ⟨w5.heap.size, 5, none⟩ = some (.int .i64 0)) (first | exact ⟨box_cell hG7 hl5 2 rfl, box_cell hG7 hl5 5 rfl⟩ | exact ⟨(World.cell?_setCell_other _ _ _ _ (by simp)).trans (box_cell hG7 hl5 2 rfl), (World.cell?_setCell_other _ _ _ _ (by simp)).trans (box_cell hG7 hl5 5 rfl)⟩ | go_keep)
      (first | (go_at_call 28; refine (range_any sb 1 5 _ ?_ (by decide) (by decide) (by decide)).mono ?_; exact srcOk_drewN (srcOk_alloc hS5 _) 1; rintro e w7 ⟨k, ⟨j0, j1⟩, rfl, hS7, hG7'⟩; have hG7 := grownBy_undrew hG7'; have c3 := box_cell hG7 hl5 3 rfl; have f3 := box_frozen hG7 hl5 3))
    all_goals
      have c0 := box_cell hG7 hl5 0 rfl
      have c1 := box_cell hG7 hl5 1 rfl
      have c2 := box_cell hG7 hl5 2 rfl
      have c4 := box_cell hG7 hl5 4 rfl
      have c5 := box_cell hG7 hl5 5 rfl
      have c6 := box_cell hG7 hl5 6 rfl
      have r0 := keep_cell hG7 k0 (by omega)
      have r1 := keep_cell hG7 k1 (by omega)
      have r2 := keep_cell hG7 k2 (by omega)
      have r3 := keep_cell hG7 k3 (by omega)
      have r4 := keep_cell hG7 k4 (by omega)
      have r5 := keep_cell hG7 k5 (by omega)
      have r6 := keep_cell hG7 k6 (by omega)
      have rf : ∀ o, w7.frozen? ⟨w.heap.size, o, none⟩ = false := fun o => keep_frozen hG7 (by omega) (kf o) (by omega)
      have u1 : IntKind.i64.wrap 30 = 30 := IntWalk.i64_in _ (by omega)
      have u2 : IntKind.i64.wrap (30 * k) = 30 * k := IntWalk.i64_in _ (by omega)
      have u3 : IntKind.i64.wrap (is + 30 * k) = is + 30 * k := IntWalk.i64_in _ (by omega)
      rw [u1, u2, u3]
      clear u1 u2 u3
      have HL := Lib.hid (show SecLike un is (is + 30 * k) 0 0 from ⟨HH.out.1, HH.out.2.1, by simp, HH.out.2.2.2, fun _ => rfl, ⟨k, j0, j1, by rw [show (max (0 : Int) 1) = 1 from rfl]; omega⟩⟩)
      go_wp2
      exact bodyPost_ret (v := .agg #[.int .i64 id, .int .i64 un, .int .i64 is, .int .i64 (is + 30 * k), .int .i64 0, .int .i64 0, .bool (q == 1)]) (by simp [results, Tryz.results27, go_sem, r0, r1, r2, r3, r4, r5, r6]) rfl (secured_mk HL.out hS7 hlt HG.out hG7)
  · have e0 : ev ≠ 0 := by simpa using (by assumption : (ev == 0) = false)
    have e1 : 1 ≤ ev := by omega
    clear e0
    have hl5 := srcOk_lt hS5
    go_region_held3 (fun w' => w'.cell? ⟨w5.heap.size, 2, none⟩ = some (.int .i64 is) ∧ w'.cell? ⟨w5.heap.size, 5, none⟩ = some (.int .i64 ev)) (first | exact ⟨box_cell hG7 hl5 2 rfl, box_cell hG7 hl5 5 rfl⟩ | exact ⟨(World.cell?_setCell_other _ _ _ _ (by simp)).trans (box_cell hG7 hl5 2 rfl), (World.cell?_setCell_other _ _ _ _ (by simp)).trans (box_cell hG7 hl5 5 rfl)⟩ | go_keep)
      (first | (go_at_call 28; refine (range_any sb 1 5 _ ?_ (by decide) (by decide) (by decide)).mono ?_; exact srcOk_drewN (srcOk_alloc hS5 _) 1; rintro e w7 ⟨k, ⟨j0, j1⟩, rfl, hS7, hG7'⟩; have hG7 := grownBy_undrew hG7'; have c3 := box_cell hG7 hl5 3 rfl; have f3 := box_frozen hG7 hl5 3))
    all_goals
      have c0 := box_cell hG7 hl5 0 rfl
      have c1 := box_cell hG7 hl5 1 rfl
      have c2 := box_cell hG7 hl5 2 rfl
      have c4 := box_cell hG7 hl5 4 rfl
      have c5 := box_cell hG7 hl5 5 rfl
      have c6 := box_cell hG7 hl5 6 rfl
      have r0 := keep_cell hG7 k0 (by omega)
      have r1 := keep_cell hG7 k1 (by omega)
      have r2 := keep_cell hG7 k2 (by omega)
      have r3 := keep_cell hG7 k3 (by omega)
      have r4 := keep_cell hG7 k4 (by omega)
      have r5 := keep_cell hG7 k5 (by omega)
      have r6 := keep_cell hG7 k6 (by omega)
      have rf : ∀ o, w7.frozen? ⟨w.heap.size, o, none⟩ = false := fun o => keep_frozen hG7 (by omega) (kf o) (by omega)
      have pb := mul_bd (show 0 ≤ 30 * ev by omega) (show 30 * ev ≤ 360 by omega) (show 0 ≤ k by omega) j1
      obtain ⟨pb0, pb1⟩ := pb
      have u1 : IntKind.i64.wrap (30 * ev) = 30 * ev := IntWalk.i64_in _ (by omega)
      have u2 : IntKind.i64.wrap (30 * ev * k) = 30 * ev * k := IntWalk.i64_in _ (by omega)
      have u3 : IntKind.i64.wrap (is + 30 * ev * k) = is + 30 * ev * k := IntWalk.i64_in _ (by omega)
      try rw [show (if ev < 1 then (1 : Int) else ev) = ev from if_neg (by omega)]
      rw [u1, u2, u3]
      clear u1 u2 u3
      have HL := Lib.hid (show SecLike un is (is + 30 * ev * k) ra ev from ⟨HH.out.1, HH.out.2.1, HH.out.2.2.1, HH.out.2.2.2, fun h => by omega, ⟨k, j0, j1, by rw [Int.max_eq_left e1]⟩⟩)
      go_wp2
      exact bodyPost_ret (v := .agg #[.int .i64 id, .int .i64 un, .int .i64 is, .int .i64 (is + 30 * ev * k), .int .i64 ra, .int .i64 ev, .bool (q == 1)]) (by simp [results, Tryz.results27, go_sem, r0, r1, r2, r3, r4, r5, r6]) rfl (secured_mk HL.out hS7 hlt HG.out hG7)
/-- what one deal may do -/
def Dealt (R : Reg) (day : Int) (R' : Reg) (day' : Int) : Prop :=
  (R' = R ∧ day' = day) ∨ ∃ m : Mv, m.day = day' ∧ (1 ≤ m.kind ∧ m.kind ≤ 3) ∧ rmE R m = 0 ∧ R' = rmR R m ∧ day ≤ day' ∧ day' ≤ day + 130 ∧ (1 ≤ m.s ∧ m.s ≤ 3) ∧ (0 ≤ m.f ∧ m.f ≤ 4) ∧ (0 ≤ m.t ∧ m.t ≤ 4)
/-- what Deal leaves -/
def DealtW (P : Nat → Prop) (sb : Nat) (R : Reg) (day : Int) (w : World) (e : Ending) (w' : World) : Prop :=
  ∃ vs vh vm R' day', e = .returned (.tuple #[.agg #[vs, vh, vm], .int .i64 day']) ∧ Dealt R day R' day' ∧ RgIn P w' vs vh vm R' ∧ SrcOk w' sb ∧ w.grownBy w' (some sb)
theorem src_fin {w w6 W : World} {sb : Nat} (g : w.grownBy w6 (some sb)) (hS : SrcOk w6 sb) (hb : Below w.heap.size w6 W) (hlt : sb < w.heap.size) : SrcOk W sb ∧ w.grownBy W (some sb) :=
  ⟨srcOk_below hS hb hlt, hb.os.trans g.os, hb.tape.trans g.tape, hb.output.trans g.output, Nat.le_trans g.size hb.size, fun k hk hne => (hb.block k hk).trans (g.block k hk hne)⟩
theorem below_set3 (w : World) {B b : Nat} (h : B ≤ b) (v0 v1 v2 : Value) : Below B w (((w.setCell ⟨b, 0, none⟩ v0).setCell ⟨b, 1, none⟩ v1).setCell ⟨b, 2, none⟩ v2) := (((Below.refl B w).setCell h _).setCell h _).setCell h _
/-- the end of a deal that is refused -/
theorem deal_no {P : Nat → Prop} {sb : Nat} {R : Reg} {day : Int} {w w6 w7 : World} {X : Nat} {a0 a1 a2 : Option Addr} {n0 c0 n1 c1 n2 c2 : Nat} {x0 x1 x2 : Value} (hr : RgIn P w (.slice a0 n0 c0) (.slice a1 n1 c1) (.slice a2 n2 c2) R) (hPs : ∀ b, P b → b ≠ sb) (hlt : sb < w.heap.size) (g : w.grownBy w6 (some sb)) (hS : SrcOk w6 sb) (h7 : Below w6.heap.size w6 w7) (hX : w.heap.size ≤ X) :
    DealtW P sb R day w (.returned (.tuple #[.agg #[.slice a0 n0 c0, .slice a1 n1 c1, .slice a2 n2 c2], .int .i64 day])) ((((((w7.setCell ⟨X, 0, none⟩ x0).setCell ⟨X, 1, none⟩ x1).setCell ⟨X, 2, none⟩ x2).setCell ⟨w.heap.size + 1, 0, none⟩ (.slice a0 n0 c0)).setCell ⟨w.heap.size + 1, 1, none⟩ (.slice a1 n1 c1)).setCell ⟨w.heap.size + 1, 2, none⟩ (.slice a2 n2 c2)) := by
  have z := g.size
  have hb : Below w.heap.size w6 w7 := h7.mono z
  have e := src_fin g hS ((hb.trans (below_set3 w7 hX x0 x1 x2)).trans (below_set3 _ (Nat.le_succ w.heap.size) (.slice a0 n0 c0) (.slice a1 n1 c1) (.slice a2 n2 c2))) hlt
  refine ⟨_, _, _, R, day, rfl, .inl ⟨rfl, rfl⟩, ?_, e.1, e.2⟩
  have h1 := (hr.mono (Q := fun b => P b ∧ b < w.heap.size) (fun b h hl => ⟨h, hl⟩)).grown g (fun b h => hPs b h.1)
  exact (((h1.below h7).set3 (b := X) (fun k hk => by omega)).set3 (b := w.heap.size + 1) (fun k hk => by omega)).mono (fun b h _ => h.1)
/-- the end of a deal that is made -/
theorem deal_yes {P : Nat → Prop} {sb : Nat} {R : Reg} {m : Mv} {E day : Int} {w w6 w7 : World} {X : Nat} {b0 b1 b2 : Option Addr} {m0 d0 m1 d1 m2 d2 : Nat} {Q : Reg} (hq : RgIn (fun b => (P b ∧ b < w.heap.size) ∨ w6.heap.size + 2 ≤ b) w7 (.slice b0 m0 d0) (.slice b1 m1 d1) (.slice b2 m2 d2) Q) (hP : ∀ b, w.heap.size ≤ b → P b) (hPs : ∀ b, P b → b ≠ sb) (hlt : sb < w.heap.size) (g : w.grownBy w6 (some sb)) (hS : SrcOk w6 sb) (h7 : Below w6.heap.size w6 w7) (hX : w.heap.size ≤ X) (hX2 : X < w6.heap.size) (hB : w.heap.size + 1 < w6.heap.size)
    (hQ : rmR R m = Q) (hE : rmE R m = 0) (hk : 1 ≤ m.kind ∧ m.kind ≤ 3) (hd : day ≤ m.day) (hd2 : m.day ≤ day + 130) (hs : 1 ≤ m.s ∧ m.s ≤ 3) (hf : 0 ≤ m.f ∧ m.f ≤ 4) (ht : 0 ≤ m.t ∧ m.t ≤ 4) {dd : Int} (hdd : m.day = dd) :
    DealtW P sb R day w (.returned (.tuple #[.agg #[.slice b0 m0 d0, .slice b1 m1 d1, .slice b2 m2 d2], .int .i64 dd])) ((((((w7.setCell ⟨X, 0, none⟩ (.slice b0 m0 d0)).setCell ⟨X, 1, none⟩ (.slice b1 m1 d1)).setCell ⟨X, 2, none⟩ (.slice b2 m2 d2)).setCell ⟨w.heap.size + 1, 0, none⟩ (.slice b0 m0 d0)).setCell ⟨w.heap.size + 1, 1, none⟩ (.slice b1 m1 d1)).setCell ⟨w.heap.size + 1, 2, none⟩ (.slice b2 m2 d2)) := by
  have z := g.size
  have hb : Below w.heap.size w6 w7 := h7.mono z
  have e := src_fin g hS ((hb.trans (below_set3 w7 hX (.slice b0 m0 d0) (.slice b1 m1 d1) (.slice b2 m2 d2))).trans (below_set3 _ (Nat.le_succ w.heap.size) (.slice b0 m0 d0) (.slice b1 m1 d1) (.slice b2 m2 d2))) hlt
  subst hdd
  refine ⟨_, _, _, Q, m.day, rfl, .inr ⟨m, rfl, hk, hE, hQ.symm, hd, hd2, hs, hf, ht⟩, ?_, e.1, e.2⟩
  exact ((hq.set3 (b := X) (fun k hk => by omega)).set3 (b := w.heap.size + 1) (fun k hk => by omega)).mono (fun b h _ => h.elim (fun h => h.1) (fun h => hP b (by omega)))
set_option maxHeartbeats 8000000 in
set_option maxRecDepth 100000 in
theorem deal_any (P : Nat → Prop) (sb : Nat) (vs vh vm : Value) (R : Reg) (day : Int) (w : World) (hs : SrcOk w sb) (hr : RgIn P w vs vh vm R) (hS : R.secs.length ≤ 1000000) (hH : R.hs.length ≤ 1000000) (hM : R.ms.length ≤ 1000000) (hP : ∀ b, w.heap.size ≤ b → P b) (hPs : ∀ b, P b → b ≠ sb) (hd0 : 0 ≤ day) (hd1 : day ≤ 1000000000) :
    Calls Tryz.prog 123 #[.pointer (some ⟨sb, 0, none⟩), .agg #[vs, vh, vm], .int .i64 day] w (DealtW P sb R day w) := by
  obtain ⟨a0, n0, c0, rfl, -, -, -⟩ := hr.S.shape
  obtain ⟨a1, n1, c1, rfl, -, -, -⟩ := hr.H.shape
  obtain ⟨a2, n2, c2, rfl, -, -, -⟩ := hr.M.shape
  have hlt := srcOk_lt hs
  have HR := Lib.hid hr
  clear hr
  go_enter Tryz.func123, Tryz.ntmps123
  go_wp2_with fail
  refine (pick_lit sb [0, 0, 1, 30] _ _ _ _ (srcOk_alloc (srcOk_alloc hs _) _) (by decide) (by decide) rfl rfl (by simp)).mono ?_
  rintro e w1 ⟨p, hp, rfl, hS1, hG1⟩
  have hp' : 0 ≤ p ∧ p ≤ 30 := by simp at hp; omega
  clear hp
  have hwn : IntKind.i64.wrap (day + p) = day + p := IntWalk.i64_in _ (by omega)
  go_wp2_with fail
  refine (range_any sb 1 3 _ hS1 (by decide) (by decide) (by decide)).mono ?_
  rintro e w2 ⟨id, hid, rfl, hS2, hG2⟩
  go_wp2_with fail
  refine (range_any sb 1 4 _ hS2 (by decide) (by decide) (by decide)).mono ?_
  rintro e w3 ⟨a, ha, rfl, hS3, hG3⟩
  go_wp2_with fail
  refine (range_any sb 1 4 _ hS3 (by decide) (by decide) (by decide)).mono ?_
  rintro e w4 ⟨b, hb, rfl, hS4, hG4⟩
  go_wp2_with fail
  refine (pick_lit sb [100, 300, 1000, 5000] _ _ _ _ hS4 (by decide) (by decide) rfl rfl (by simp)).mono ?_
  rintro e w5 ⟨n, hn, rfl, hS5, hG5⟩
  clear hn
  go_wp2_with fail
  refine (n_any sb 6 _ (srcOk_alloc hS5 _) (by decide)).mono ?_
  rintro e w6 ⟨q, hq, rfl, hS6, hG6⟩
  have hq6 : q = 0 ∨ q = 1 ∨ q = 2 ∨ q = 3 ∨ q = 4 ∨ q = 5 := by omega
  have hGa : ((w.alloc (.cells #[.slice a0 n0 c0, .slice a1 n1 c1, .slice a2 n2 c2] 31)).alloc (.cells #[.slice none 0 0, .slice none 0 0, .slice none 0 0] 31)).grownBy w5 (some sb) := grownBy_trans hG1 (grownBy_trans hG2 (grownBy_trans hG3 (grownBy_trans hG4 hG5)))
  have hG : ((w.alloc (.cells #[.slice a0 n0 c0, .slice a1 n1 c1, .slice a2 n2 c2] 31)).alloc (.cells #[.slice none 0 0, .slice none 0 0, .slice none 0 0] 31)).grownBy w6 (some sb) := grownBy_trans hGa (grownBy_trans (World.grownBy_alloc w5 _ _) hG6)
  have hGb : (w.alloc (.cells #[.slice a0 n0 c0, .slice a1 n1 c1, .slice a2 n2 c2] 31)).grownBy w6 (some sb) := grownBy_trans (World.grownBy_alloc _ _ _) hG
  have hGw : w.grownBy w6 (some sb) := grownBy_trans (World.grownBy_alloc _ _ _) hGb
  have z5 := hGa.size
  simp only [World.size_alloc] at z5
  have z6 := hG6.size
  simp only [World.size_alloc] at z6
  have hl1 : sb < (w.alloc (.cells #[.slice a0 n0 c0, .slice a1 n1 c1, .slice a2 n2 c2] 31)).heap.size := by simp; omega
  have k0 := box_cell hGb hlt 0 rfl
  have k1 := box_cell hGb hlt 1 rfl
  have k2 := box_cell hGb hlt 2 rfl
  have y0 : w6.cell? ⟨w.heap.size + 1, 0, none⟩ = some (.slice none 0 0) := by have := box_cell hG hl1 0 rfl; simpa using this
  have y1 : w6.cell? ⟨w.heap.size + 1, 1, none⟩ = some (.slice none 0 0) := by have := box_cell hG hl1 1 rfl; simpa using this
  have y2 : w6.cell? ⟨w.heap.size + 1, 2, none⟩ = some (.slice none 0 0) := by have := box_cell hG hl1 2 rfl; simpa using this
  have yf : ∀ o, w6.frozen? ⟨w.heap.size + 1, o, none⟩ = false := fun o => by have := box_frozen hG hl1 o; simpa using this
  have x0 := box_cell hG6 (srcOk_lt hS5) 0 rfl
  have x1 := box_cell hG6 (srcOk_lt hS5) 1 rfl
  have x2 := box_cell hG6 (srcOk_lt hS5) 2 rfl
  have xf := box_frozen hG6 (srcOk_lt hS5)
  have HGW := Lib.hid hGw
  have hr6 : RgIn (fun b => (P b ∧ b < w.heap.size) ∨ w6.heap.size + 2 ≤ b) w6 (.slice a0 n0 c0) (.slice a1 n1 c1) (.slice a2 n2 c2) R := ((HR.out.mono (Q := fun b => P b ∧ b < w.heap.size) (fun b h hl => ⟨h, hl⟩)).grown hGw (fun b h => hPs b h.1)).mono (fun b h _ => .inl h)
  have HR6 := Lib.hid hr6
  have HS6 := Lib.hid hS6
  clear hS1 hS2 hS3 hS4 hS5 hS6 hG1 hG2 hG3 hG4 hG5 hG6 hGa hG hGb hGw hr6 hl1 hs hq hwn
  obtain ⟨dp, hdp⟩ : ∃ dp, day + p = dp := ⟨_, rfl⟩
  rw [hdp]
  rcases hq6 with rfl | rfl | rfl | rfl | rfl | rfl
  · obtain ⟨nx, hnx, hnx2⟩ : ∃ nx : Int, nx = max dp 100 ∧ (day ≤ nx ∧ nx ≤ day + 130) := ⟨_, rfl, by omega⟩
    obtain ⟨E, hE⟩ : ∃ E, rmE R ⟨0, nx, 1, id, 0, a, n⟩ = E := ⟨_, rfl⟩
    obtain ⟨Q, hQ⟩ : ∃ Q, rmR R ⟨0, nx, 1, id, 0, a, n⟩ = Q := ⟨_, rfl⟩
    have hC := fIssue_any _ _ _ _ R nx id a n w6 HR6.out hS hH hM (fun b hb => .inr hb)
    rw [hE, hQ] at hC
    have HC := Lib.hid hC
    have HE := Lib.hid hE
    have HQ := Lib.hid hQ
    clear hC hE hQ
    by_cases hmx : 100 ≤ dp
    rotate_left
    · obtain rfl : nx = 100 := by omega
      clear hnx
      go_wp2_with fail
      refine HC.out.mono ?_
      rintro e w7 hg
      obtain ⟨b0, m0, d0, b1, m1, d1, b2, m2, d2, rfl, hq, hb7⟩ := hg.shape
      clear hg
      have z7 := hb7.size
      have HQR := Lib.hid hq
      have HB7 := Lib.hid hb7
      have v0 := keepB hb7 k0
      have v1 := keepB hb7 k1
      have v2 := keepB hb7 k2
      have s0 := keepB hb7 y0
      have s1 := keepB hb7 y1
      have s2 := keepB hb7 y2
      have sf0 := keepF hb7 y0 (yf 0)
      have sf1 := keepF hb7 y0 (yf 1)
      have sf2 := keepF hb7 y0 (yf 2)
      have t0 := keepB hb7 x0
      have t1 := keepB hb7 x1
      have t2 := keepB hb7 x2
      have tf0 := keepF hb7 x0 (xf 0)
      have tf1 := keepF hb7 x0 (xf 1)
      have tf2 := keepF hb7 x0 (xf 2)
      have q1 : ¬ w.heap.size = w5.heap.size := by omega
      have q2 : ¬ w.heap.size + 1 = w5.heap.size := by omega
      have q3 : ¬ w5.heap.size = w.heap.size := by omega
      have q4 : ¬ w5.heap.size = w.heap.size + 1 := by omega
      clear hq hb7 k0 k1 k2 y0 y1 y2 yf x0 x1 x2 xf
      by_cases hE : E = 0
      · subst hE
        have HFIN := Lib.hid (deal_yes (day := day) (E := 0) (X := w5.heap.size) HQR.out hP hPs hlt HGW.out HS6.out HB7.out (by omega) (by omega) (by omega) HQ.out HE.out ⟨by simp, by simp⟩ hnx2.1 hnx2.2 hid (⟨by simp, by simp⟩) (⟨by show (0:Int) ≤ a; omega, by show a ≤ 4; omega⟩) rfl)
        go_wp2
        refine bodyPost_ret (v := .tuple #[.agg #[.slice b0 m0 d0, .slice b1 m1 d1, .slice b2 m2 d2], .int .i64 100]) (by simp [results, Tryz.results123, go_sem, s0, s1, s2]) rfl HFIN.out
      · have g1 : (E != 0) = true := by simpa using hE
        have g2 : (E == 0) = false := by simpa using hE
        go_wp2
        refine bodyPost_ret (v := .tuple #[.agg #[.slice a0 n0 c0, .slice a1 n1 c1, .slice a2 n2 c2], .int .i64 day]) (by simp [results, Tryz.results123, go_sem, s0, s1, s2]) rfl (deal_no HR.out hPs hlt HGW.out HS6.out HB7.out (by omega))
    · obtain rfl : nx = dp := by omega
      clear hnx
      go_wp2_with fail
      refine HC.out.mono ?_
      rintro e w7 hg
      obtain ⟨b0, m0, d0, b1, m1, d1, b2, m2, d2, rfl, hq, hb7⟩ := hg.shape
      clear hg
      have z7 := hb7.size
      have HQR := Lib.hid hq
      have HB7 := Lib.hid hb7
      have v0 := keepB hb7 k0
      have v1 := keepB hb7 k1
      have v2 := keepB hb7 k2
      have s0 := keepB hb7 y0
      have s1 := keepB hb7 y1
      have s2 := keepB hb7 y2
      have sf0 := keepF hb7 y0 (yf 0)
      have sf1 := keepF hb7 y0 (yf 1)
      have sf2 := keepF hb7 y0 (yf 2)
      have t0 := keepB hb7 x0
      have t1 := keepB hb7 x1
      have t2 := keepB hb7 x2
      have tf0 := keepF hb7 x0 (xf 0)
      have tf1 := keepF hb7 x0 (xf 1)
      have tf2 := keepF hb7 x0 (xf 2)
      have q1 : ¬ w.heap.size = w5.heap.size := by omega
      have q2 : ¬ w.heap.size + 1 = w5.heap.size := by omega
      have q3 : ¬ w5.heap.size = w.heap.size := by omega
      have q4 : ¬ w5.heap.size = w.heap.size + 1 := by omega
      clear hq hb7 k0 k1 k2 y0 y1 y2 yf x0 x1 x2 xf
      by_cases hE : E = 0
      · subst hE
        have HFIN := Lib.hid (deal_yes (day := day) (E := 0) (X := w5.heap.size) HQR.out hP hPs hlt HGW.out HS6.out HB7.out (by omega) (by omega) (by omega) HQ.out HE.out ⟨by simp, by simp⟩ hnx2.1 hnx2.2 hid (⟨by simp, by simp⟩) (⟨by show (0:Int) ≤ a; omega, by show a ≤ 4; omega⟩) rfl)
        go_wp2
        refine bodyPost_ret (v := .tuple #[.agg #[.slice b0 m0 d0, .slice b1 m1 d1, .slice b2 m2 d2], .int .i64 nx]) (by simp [results, Tryz.results123, go_sem, s0, s1, s2]) rfl HFIN.out
      · have g1 : (E != 0) = true := by simpa using hE
        have g2 : (E == 0) = false := by simpa using hE
        go_wp2
        refine bodyPost_ret (v := .tuple #[.agg #[.slice a0 n0 c0, .slice a1 n1 c1, .slice a2 n2 c2], .int .i64 day]) (by simp [results, Tryz.results123, go_sem, s0, s1, s2]) rfl (deal_no HR.out hPs hlt HGW.out HS6.out HB7.out (by omega))
  · obtain ⟨nx, hnx, hnx2⟩ : ∃ nx : Int, nx = max dp 100 ∧ (day ≤ nx ∧ nx ≤ day + 130) := ⟨_, rfl, by omega⟩
    obtain ⟨E, hE⟩ : ∃ E, rmE R ⟨0, nx, 1, id, 0, a, n⟩ = E := ⟨_, rfl⟩
    obtain ⟨Q, hQ⟩ : ∃ Q, rmR R ⟨0, nx, 1, id, 0, a, n⟩ = Q := ⟨_, rfl⟩
    have hC := fIssue_any _ _ _ _ R nx id a n w6 HR6.out hS hH hM (fun b hb => .inr hb)
    rw [hE, hQ] at hC
    have HC := Lib.hid hC
    have HE := Lib.hid hE
    have HQ := Lib.hid hQ
    clear hC hE hQ
    by_cases hmx : 100 ≤ dp
    rotate_left
    · obtain rfl : nx = 100 := by omega
      clear hnx
      go_wp2_with fail
      refine HC.out.mono ?_
      rintro e w7 hg
      obtain ⟨b0, m0, d0, b1, m1, d1, b2, m2, d2, rfl, hq, hb7⟩ := hg.shape
      clear hg
      have z7 := hb7.size
      have HQR := Lib.hid hq
      have HB7 := Lib.hid hb7
      have v0 := keepB hb7 k0
      have v1 := keepB hb7 k1
      have v2 := keepB hb7 k2
      have s0 := keepB hb7 y0
      have s1 := keepB hb7 y1
      have s2 := keepB hb7 y2
      have sf0 := keepF hb7 y0 (yf 0)
      have sf1 := keepF hb7 y0 (yf 1)
      have sf2 := keepF hb7 y0 (yf 2)
      have t0 := keepB hb7 x0
      have t1 := keepB hb7 x1
      have t2 := keepB hb7 x2
      have tf0 := keepF hb7 x0 (xf 0)
      have tf1 := keepF hb7 x0 (xf 1)
      have tf2 := keepF hb7 x0 (xf 2)
      have q1 : ¬ w.heap.size = w5.heap.size := by omega
      have q2 : ¬ w.heap.size + 1 = w5.heap.size := by omega
      have q3 : ¬ w5.heap.size = w.heap.size := by omega
      have q4 : ¬ w5.heap.size = w.heap.size + 1 := by omega
      clear hq hb7 k0 k1 k2 y0 y1 y2 yf x0 x1 x2 xf
      by_cases hE : E = 0
      · subst hE
        have HFIN := Lib.hid (deal_yes (day := day) (E := 0) (X := w5.heap.size) HQR.out hP hPs hlt HGW.out HS6.out HB7.out (by omega) (by omega) (by omega) HQ.out HE.out ⟨by simp, by simp⟩ hnx2.1 hnx2.2 hid (⟨by simp, by simp⟩) (⟨by show (0:Int) ≤ a; omega, by show a ≤ 4; omega⟩) rfl)
        go_wp2
        refine bodyPost_ret (v := .tuple #[.agg #[.slice b0 m0 d0, .slice b1 m1 d1, .slice b2 m2 d2], .int .i64 100]) (by simp [results, Tryz.results123, go_sem, s0, s1, s2]) rfl HFIN.out
      · have g1 : (E != 0) = true := by simpa using hE
        have g2 : (E == 0) = false := by simpa using hE
        go_wp2
        refine bodyPost_ret (v := .tuple #[.agg #[.slice a0 n0 c0, .slice a1 n1 c1, .slice a2 n2 c2], .int .i64 day]) (by simp [results, Tryz.results123, go_sem, s0, s1, s2]) rfl (deal_no HR.out hPs hlt HGW.out HS6.out HB7.out (by omega))
    · obtain rfl : nx = dp := by omega
      clear hnx
      go_wp2_with fail
      refine HC.out.mono ?_
      rintro e w7 hg
      obtain ⟨b0, m0, d0, b1, m1, d1, b2, m2, d2, rfl, hq, hb7⟩ := hg.shape
      clear hg
      have z7 := hb7.size
      have HQR := Lib.hid hq
      have HB7 := Lib.hid hb7
      have v0 := keepB hb7 k0
      have v1 := keepB hb7 k1
      have v2 := keepB hb7 k2
      have s0 := keepB hb7 y0
      have s1 := keepB hb7 y1
      have s2 := keepB hb7 y2
      have sf0 := keepF hb7 y0 (yf 0)
      have sf1 := keepF hb7 y0 (yf 1)
      have sf2 := keepF hb7 y0 (yf 2)
      have t0 := keepB hb7 x0
      have t1 := keepB hb7 x1
      have t2 := keepB hb7 x2
      have tf0 := keepF hb7 x0 (xf 0)
      have tf1 := keepF hb7 x0 (xf 1)
      have tf2 := keepF hb7 x0 (xf 2)
      have q1 : ¬ w.heap.size = w5.heap.size := by omega
      have q2 : ¬ w.heap.size + 1 = w5.heap.size := by omega
      have q3 : ¬ w5.heap.size = w.heap.size := by omega
      have q4 : ¬ w5.heap.size = w.heap.size + 1 := by omega
      clear hq hb7 k0 k1 k2 y0 y1 y2 yf x0 x1 x2 xf
      by_cases hE : E = 0
      · subst hE
        have HFIN := Lib.hid (deal_yes (day := day) (E := 0) (X := w5.heap.size) HQR.out hP hPs hlt HGW.out HS6.out HB7.out (by omega) (by omega) (by omega) HQ.out HE.out ⟨by simp, by simp⟩ hnx2.1 hnx2.2 hid (⟨by simp, by simp⟩) (⟨by show (0:Int) ≤ a; omega, by show a ≤ 4; omega⟩) rfl)
        go_wp2
        refine bodyPost_ret (v := .tuple #[.agg #[.slice b0 m0 d0, .slice b1 m1 d1, .slice b2 m2 d2], .int .i64 nx]) (by simp [results, Tryz.results123, go_sem, s0, s1, s2]) rfl HFIN.out
      · have g1 : (E != 0) = true := by simpa using hE
        have g2 : (E == 0) = false := by simpa using hE
        go_wp2
        refine bodyPost_ret (v := .tuple #[.agg #[.slice a0 n0 c0, .slice a1 n1 c1, .slice a2 n2 c2], .int .i64 day]) (by simp [results, Tryz.results123, go_sem, s0, s1, s2]) rfl (deal_no HR.out hPs hlt HGW.out HS6.out HB7.out (by omega))
  · obtain ⟨nx, hnx, hnx2⟩ : ∃ nx : Int, nx = max dp 100 ∧ (day ≤ nx ∧ nx ≤ day + 130) := ⟨_, rfl, by omega⟩
    obtain ⟨E, hE⟩ : ∃ E, rmE R ⟨0, nx, 1, id, 0, a, n⟩ = E := ⟨_, rfl⟩
    obtain ⟨Q, hQ⟩ : ∃ Q, rmR R ⟨0, nx, 1, id, 0, a, n⟩ = Q := ⟨_, rfl⟩
    have hC := fIssue_any _ _ _ _ R nx id a n w6 HR6.out hS hH hM (fun b hb => .inr hb)
    rw [hE, hQ] at hC
    have HC := Lib.hid hC
    have HE := Lib.hid hE
    have HQ := Lib.hid hQ
    clear hC hE hQ
    by_cases hmx : 100 ≤ dp
    rotate_left
    · obtain rfl : nx = 100 := by omega
      clear hnx
      go_wp2_with fail
      refine HC.out.mono ?_
      rintro e w7 hg
      obtain ⟨b0, m0, d0, b1, m1, d1, b2, m2, d2, rfl, hq, hb7⟩ := hg.shape
      clear hg
      have z7 := hb7.size
      have HQR := Lib.hid hq
      have HB7 := Lib.hid hb7
      have v0 := keepB hb7 k0
      have v1 := keepB hb7 k1
      have v2 := keepB hb7 k2
      have s0 := keepB hb7 y0
      have s1 := keepB hb7 y1
      have s2 := keepB hb7 y2
      have sf0 := keepF hb7 y0 (yf 0)
      have sf1 := keepF hb7 y0 (yf 1)
      have sf2 := keepF hb7 y0 (yf 2)
      have t0 := keepB hb7 x0
      have t1 := keepB hb7 x1
      have t2 := keepB hb7 x2
      have tf0 := keepF hb7 x0 (xf 0)
      have tf1 := keepF hb7 x0 (xf 1)
      have tf2 := keepF hb7 x0 (xf 2)
      have q1 : ¬ w.heap.size = w5.heap.size := by omega
      have q2 : ¬ w.heap.size + 1 = w5.heap.size := by omega
      have q3 : ¬ w5.heap.size = w.heap.size := by omega
      have q4 : ¬ w5.heap.size = w.heap.size + 1 := by omega
      clear hq hb7 k0 k1 k2 y0 y1 y2 yf x0 x1 x2 xf
      by_cases hE : E = 0
      · subst hE
        have HFIN := Lib.hid (deal_yes (day := day) (E := 0) (X := w5.heap.size) HQR.out hP hPs hlt HGW.out HS6.out HB7.out (by omega) (by omega) (by omega) HQ.out HE.out ⟨by simp, by simp⟩ hnx2.1 hnx2.2 hid (⟨by simp, by simp⟩) (⟨by show (0:Int) ≤ a; omega, by show a ≤ 4; omega⟩) rfl)
        go_wp2
        refine bodyPost_ret (v := .tuple #[.agg #[.slice b0 m0 d0, .slice b1 m1 d1, .slice b2 m2 d2], .int .i64 100]) (by simp [results, Tryz.results123, go_sem, s0, s1, s2]) rfl HFIN.out
      · have g1 : (E != 0) = true := by simpa using hE
        have g2 : (E == 0) = false := by simpa using hE
        go_wp2
        refine bodyPost_ret (v := .tuple #[.agg #[.slice a0 n0 c0, .slice a1 n1 c1, .slice a2 n2 c2], .int .i64 day]) (by simp [results, Tryz.results123, go_sem, s0, s1, s2]) rfl (deal_no HR.out hPs hlt HGW.out HS6.out HB7.out (by omega))
    · obtain rfl : nx = dp := by omega
      clear hnx
      go_wp2_with fail
      refine HC.out.mono ?_
      rintro e w7 hg
      obtain ⟨b0, m0, d0, b1, m1, d1, b2, m2, d2, rfl, hq, hb7⟩ := hg.shape
      clear hg
      have z7 := hb7.size
      have HQR := Lib.hid hq
      have HB7 := Lib.hid hb7
      have v0 := keepB hb7 k0
      have v1 := keepB hb7 k1
      have v2 := keepB hb7 k2
      have s0 := keepB hb7 y0
      have s1 := keepB hb7 y1
      have s2 := keepB hb7 y2
      have sf0 := keepF hb7 y0 (yf 0)
      have sf1 := keepF hb7 y0 (yf 1)
      have sf2 := keepF hb7 y0 (yf 2)
      have t0 := keepB hb7 x0
      have t1 := keepB hb7 x1
      have t2 := keepB hb7 x2
      have tf0 := keepF hb7 x0 (xf 0)
      have tf1 := keepF hb7 x0 (xf 1)
      have tf2 := keepF hb7 x0 (xf 2)
      have q1 : ¬ w.heap.size = w5.heap.size := by omega
      have q2 : ¬ w.heap.size + 1 = w5.heap.size := by omega
      have q3 : ¬ w5.heap.size = w.heap.size := by omega
      have q4 : ¬ w5.heap.size = w.heap.size + 1 := by omega
      clear hq hb7 k0 k1 k2 y0 y1 y2 yf x0 x1 x2 xf
      by_cases hE : E = 0
      · subst hE
        have HFIN := Lib.hid (deal_yes (day := day) (E := 0) (X := w5.heap.size) HQR.out hP hPs hlt HGW.out HS6.out HB7.out (by omega) (by omega) (by omega) HQ.out HE.out ⟨by simp, by simp⟩ hnx2.1 hnx2.2 hid (⟨by simp, by simp⟩) (⟨by show (0:Int) ≤ a; omega, by show a ≤ 4; omega⟩) rfl)
        go_wp2
        refine bodyPost_ret (v := .tuple #[.agg #[.slice b0 m0 d0, .slice b1 m1 d1, .slice b2 m2 d2], .int .i64 nx]) (by simp [results, Tryz.results123, go_sem, s0, s1, s2]) rfl HFIN.out
      · have g1 : (E != 0) = true := by simpa using hE
        have g2 : (E == 0) = false := by simpa using hE
        go_wp2
        refine bodyPost_ret (v := .tuple #[.agg #[.slice a0 n0 c0, .slice a1 n1 c1, .slice a2 n2 c2], .int .i64 day]) (by simp [results, Tryz.results123, go_sem, s0, s1, s2]) rfl (deal_no HR.out hPs hlt HGW.out HS6.out HB7.out (by omega))
  · have hnx2 : day ≤ dp ∧ dp ≤ day + 130 := by omega
    obtain ⟨E, hE⟩ : ∃ E, rmE R ⟨0, dp, 2, id, a, b, n⟩ = E := ⟨_, rfl⟩
    obtain ⟨Q, hQ⟩ : ∃ Q, rmR R ⟨0, dp, 2, id, a, b, n⟩ = Q := ⟨_, rfl⟩
    have hC := fTransfer_any _ _ _ _ R dp id a b n w6 HR6.out hS hH hM (fun b hb => .inr hb)
    rw [hE, hQ] at hC
    have HC := Lib.hid hC
    have HE := Lib.hid hE
    have HQ := Lib.hid hQ
    clear hC hE hQ
    go_wp2_with fail
    refine HC.out.mono ?_
    rintro e w7 hg
    obtain ⟨b0, m0, d0, b1, m1, d1, b2, m2, d2, rfl, hq, hb7⟩ := hg.shape
    clear hg
    have z7 := hb7.size
    have HQR := Lib.hid hq
    have HB7 := Lib.hid hb7
    have v0 := keepB hb7 k0
    have v1 := keepB hb7 k1
    have v2 := keepB hb7 k2
    have s0 := keepB hb7 y0
    have s1 := keepB hb7 y1
    have s2 := keepB hb7 y2
    have sf0 := keepF hb7 y0 (yf 0)
    have sf1 := keepF hb7 y0 (yf 1)
    have sf2 := keepF hb7 y0 (yf 2)
    have t0 := keepB hb7 x0
    have t1 := keepB hb7 x1
    have t2 := keepB hb7 x2
    have tf0 := keepF hb7 x0 (xf 0)
    have tf1 := keepF hb7 x0 (xf 1)
    have tf2 := keepF hb7 x0 (xf 2)
    have q1 : ¬ w.heap.size = w5.heap.size := by omega
    have q2 : ¬ w.heap.size + 1 = w5.heap.size := by omega
    have q3 : ¬ w5.heap.size = w.heap.size := by omega
    have q4 : ¬ w5.heap.size = w.heap.size + 1 := by omega
    clear hq hb7 k0 k1 k2 y0 y1 y2 yf x0 x1 x2 xf
    by_cases hE : E = 0
    · subst hE
      have HFIN := Lib.hid (deal_yes (day := day) (E := 0) (X := w5.heap.size) HQR.out hP hPs hlt HGW.out HS6.out HB7.out (by omega) (by omega) (by omega) HQ.out HE.out ⟨by simp, by simp⟩ hnx2.1 hnx2.2 hid (⟨by show (0:Int) ≤ a; omega, by show a ≤ 4; omega⟩) (⟨by show (0:Int) ≤ b; omega, by show b ≤ 4; omega⟩) rfl)
      go_wp2
      refine bodyPost_ret (v := .tuple #[.agg #[.slice b0 m0 d0, .slice b1 m1 d1, .slice b2 m2 d2], .int .i64 dp]) (by simp [results, Tryz.results123, go_sem, s0, s1, s2]) rfl HFIN.out
    · have g1 : (E != 0) = true := by simpa using hE
      have g2 : (E == 0) = false := by simpa using hE
      go_wp2
      refine bodyPost_ret (v := .tuple #[.agg #[.slice a0 n0 c0, .slice a1 n1 c1, .slice a2 n2 c2], .int .i64 day]) (by simp [results, Tryz.results123, go_sem, s0, s1, s2]) rfl (deal_no HR.out hPs hlt HGW.out HS6.out HB7.out (by omega))
  · have hnx2 : day ≤ dp ∧ dp ≤ day + 130 := by omega
    obtain ⟨E, hE⟩ : ∃ E, rmE R ⟨0, dp, 2, id, a, b, n⟩ = E := ⟨_, rfl⟩
    obtain ⟨Q, hQ⟩ : ∃ Q, rmR R ⟨0, dp, 2, id, a, b, n⟩ = Q := ⟨_, rfl⟩
    have hC := fTransfer_any _ _ _ _ R dp id a b n w6 HR6.out hS hH hM (fun b hb => .inr hb)
    rw [hE, hQ] at hC
    have HC := Lib.hid hC
    have HE := Lib.hid hE
    have HQ := Lib.hid hQ
    clear hC hE hQ
    go_wp2_with fail
    refine HC.out.mono ?_
    rintro e w7 hg
    obtain ⟨b0, m0, d0, b1, m1, d1, b2, m2, d2, rfl, hq, hb7⟩ := hg.shape
    clear hg
    have z7 := hb7.size
    have HQR := Lib.hid hq
    have HB7 := Lib.hid hb7
    have v0 := keepB hb7 k0
    have v1 := keepB hb7 k1
    have v2 := keepB hb7 k2
    have s0 := keepB hb7 y0
    have s1 := keepB hb7 y1
    have s2 := keepB hb7 y2
    have sf0 := keepF hb7 y0 (yf 0)
    have sf1 := keepF hb7 y0 (yf 1)
    have sf2 := keepF hb7 y0 (yf 2)
    have t0 := keepB hb7 x0
    have t1 := keepB hb7 x1
    have t2 := keepB hb7 x2
    have tf0 := keepF hb7 x0 (xf 0)
    have tf1 := keepF hb7 x0 (xf 1)
    have tf2 := keepF hb7 x0 (xf 2)
    have q1 : ¬ w.heap.size = w5.heap.size := by omega
    have q2 : ¬ w.heap.size + 1 = w5.heap.size := by omega
    have q3 : ¬ w5.heap.size = w.heap.size := by omega
    have q4 : ¬ w5.heap.size = w.heap.size + 1 := by omega
    clear hq hb7 k0 k1 k2 y0 y1 y2 yf x0 x1 x2 xf
    by_cases hE : E = 0
    · subst hE
      have HFIN := Lib.hid (deal_yes (day := day) (E := 0) (X := w5.heap.size) HQR.out hP hPs hlt HGW.out HS6.out HB7.out (by omega) (by omega) (by omega) HQ.out HE.out ⟨by simp, by simp⟩ hnx2.1 hnx2.2 hid (⟨by show (0:Int) ≤ a; omega, by show a ≤ 4; omega⟩) (⟨by show (0:Int) ≤ b; omega, by show b ≤ 4; omega⟩) rfl)
      go_wp2
      refine bodyPost_ret (v := .tuple #[.agg #[.slice b0 m0 d0, .slice b1 m1 d1, .slice b2 m2 d2], .int .i64 dp]) (by simp [results, Tryz.results123, go_sem, s0, s1, s2]) rfl HFIN.out
    · have g1 : (E != 0) = true := by simpa using hE
      have g2 : (E == 0) = false := by simpa using hE
      go_wp2
      refine bodyPost_ret (v := .tuple #[.agg #[.slice a0 n0 c0, .slice a1 n1 c1, .slice a2 n2 c2], .int .i64 day]) (by simp [results, Tryz.results123, go_sem, s0, s1, s2]) rfl (deal_no HR.out hPs hlt HGW.out HS6.out HB7.out (by omega))
  · have hnx2 : day ≤ dp ∧ dp ≤ day + 130 := by omega
    obtain ⟨E, hE⟩ : ∃ E, rmE R ⟨0, dp, 3, id, a, 0, n⟩ = E := ⟨_, rfl⟩
    obtain ⟨Q, hQ⟩ : ∃ Q, rmR R ⟨0, dp, 3, id, a, 0, n⟩ = Q := ⟨_, rfl⟩
    have hC := fRedeem_any _ _ _ _ R dp id a n w6 HR6.out hS hH hM (fun b hb => .inr hb)
    rw [hE, hQ] at hC
    have HC := Lib.hid hC
    have HE := Lib.hid hE
    have HQ := Lib.hid hQ
    clear hC hE hQ
    go_wp2_with fail
    refine HC.out.mono ?_
    rintro e w7 hg
    obtain ⟨b0, m0, d0, b1, m1, d1, b2, m2, d2, rfl, hq, hb7⟩ := hg.shape
    clear hg
    have z7 := hb7.size
    have HQR := Lib.hid hq
    have HB7 := Lib.hid hb7
    have v0 := keepB hb7 k0
    have v1 := keepB hb7 k1
    have v2 := keepB hb7 k2
    have s0 := keepB hb7 y0
    have s1 := keepB hb7 y1
    have s2 := keepB hb7 y2
    have sf0 := keepF hb7 y0 (yf 0)
    have sf1 := keepF hb7 y0 (yf 1)
    have sf2 := keepF hb7 y0 (yf 2)
    have t0 := keepB hb7 x0
    have t1 := keepB hb7 x1
    have t2 := keepB hb7 x2
    have tf0 := keepF hb7 x0 (xf 0)
    have tf1 := keepF hb7 x0 (xf 1)
    have tf2 := keepF hb7 x0 (xf 2)
    have q1 : ¬ w.heap.size = w5.heap.size := by omega
    have q2 : ¬ w.heap.size + 1 = w5.heap.size := by omega
    have q3 : ¬ w5.heap.size = w.heap.size := by omega
    have q4 : ¬ w5.heap.size = w.heap.size + 1 := by omega
    clear hq hb7 k0 k1 k2 y0 y1 y2 yf x0 x1 x2 xf
    by_cases hE : E = 0
    · subst hE
      have HFIN := Lib.hid (deal_yes (day := day) (E := 0) (X := w5.heap.size) HQR.out hP hPs hlt HGW.out HS6.out HB7.out (by omega) (by omega) (by omega) HQ.out HE.out ⟨by simp, by simp⟩ hnx2.1 hnx2.2 hid (⟨by show (0:Int) ≤ a; omega, by show a ≤ 4; omega⟩) (⟨by simp, by simp⟩) rfl)
      go_wp2
      refine bodyPost_ret (v := .tuple #[.agg #[.slice b0 m0 d0, .slice b1 m1 d1, .slice b2 m2 d2], .int .i64 dp]) (by simp [results, Tryz.results123, go_sem, s0, s1, s2]) rfl HFIN.out
    · have g1 : (E != 0) = true := by simpa using hE
      have g2 : (E == 0) = false := by simpa using hE
      go_wp2
      refine bodyPost_ret (v := .tuple #[.agg #[.slice a0 n0 c0, .slice a1 n1 c1, .slice a2 n2 c2], .int .i64 day]) (by simp [results, Tryz.results123, go_sem, s0, s1, s2]) rfl (deal_no HR.out hPs hlt HGW.out HS6.out HB7.out (by omega))
theorem fadd_any (P : Nat → Prop) (vs vh vm : Value) (R : Reg) (id un is ma ra ev : Int) (ix : Bool) (w : World) (hr : RgIn P w vs vh vm R) (hS : R.secs.length ≤ 1000000) (hH : R.hs.length ≤ 1000000) (hM : R.ms.length ≤ 1000000) (hP : ∀ b, w.heap.size ≤ b → P b) (hnz : vs = .slice none 0 0 ∨ 0 < R.secs.length) :
    Calls Tryz.prog 122 #[.agg #[vs, vh, vm], .agg #[.int .i64 id, .int .i64 un, .int .i64 is, .int .i64 ma, .int .i64 ra, .int .i64 ev, .bool ix]] w (GaveR P (raR R ⟨id, un, is, ma, ra, ev, ix⟩) (raE R ⟨id, un, is, ma, ra, ev, ix⟩) w) := by
  by_cases hx : chkE R = 0
  · cases hf : findS R.secs id with
    | some S => exact fadd_there P vs vh vm R id un is ma ra ev ix w hr hS hH hM hP hx S hf
    | none =>
      cases hso : secB id un is ma ra ev
      · exact fadd_invalid P vs vh vm R id un is ma ra ev ix w hr hS hH hM hP hx hf hso
      · by_cases hl : R.secs.length = 20
        · exact fadd_full P vs vh vm R id un is ma ra ev ix w hr hS hH hM hP hx hf hso hl
        · rcases hnz with hnz | hnz
          · exact fadd_go_nil P vs vh vm R id un is ma ra ev ix w hr hS hH hM hP hx hf hso hl hnz
          · by_cases hcq : ∃ a n, vs = .slice a n (posS R.secs id)
            · exact fadd_go_full P vs vh vm R id un is ma ra ev ix w hr hS hH hM hP hx hf hso hl hnz hcq
            · exact fadd_go_part P vs vh vm R id un is ma ra ev ix w hr hS hH hM hP hx hf hso hl hnz hcq
  · exact fadd_bad P vs vh vm R id un is ma ra ev ix w hr hS hH hM hP hx
/-- the securities and moves that the source makes -/
structure RegLike (R : Reg) (day : Int) : Prop where
  ok : RgOk R
  rd : rgDay R = day
  day0 : 0 ≤ day
  secs : ∀ s ∈ R.secs, (1 ≤ s.id ∧ s.id ≤ 3) ∧ SecLike s.un s.is s.ma s.ra s.ev
  ms : ∀ m ∈ R.ms, (1 ≤ m.s ∧ m.s ≤ 3) ∧ (0 ≤ m.f ∧ m.f ≤ 4) ∧ (0 ≤ m.t ∧ m.t ≤ 4) ∧ (1 ≤ m.kind ∧ m.kind ≤ 3)
  ne : 0 < R.secs.length
/-- what Register leaves -/
def RegW (most : Nat) (w : World) (sb : Nat) (e : Ending) (w' : World) : Prop :=
  ∃ vs vh vm R day, e = .returned (.tuple #[.agg #[vs, vh, vm], .int .i64 day]) ∧ RegLike R day ∧ R.ms.length ≤ most ∧ day ≤ 130 * most ∧ RgIn (fun b => w.heap.size + 2 ≤ b) w' vs vh vm R ∧ SrcOk w' sb ∧ w.grownBy w' (some sb)
theorem RegLike.dealt {R R' : Reg} {day day' : Int} (h : RegLike R day) (hd : Dealt R day R' day') : RegLike R' day' ∧ R'.ms.length ≤ R.ms.length + 1 ∧ day' ≤ day + 130 ∧ R'.secs = R.secs := by
  rcases hd with ⟨rfl, rfl⟩ | ⟨m, rfl, hk, hE, rfl, d0, d1, hs, hf, ht⟩
  · exact ⟨h, by omega, by omega, rfl⟩
  · have hmv := RgOk.move hE hk
    have hr := rmR_ok hE
    have h0 := h.day0
    refine ⟨⟨hmv.1, hmv.2, by omega, ?_, ?_, by rw [hr]; exact h.ne⟩, ?_, d1, ?_⟩
    · rw [hr]; exact h.secs
    · rw [hr]
      intro x hx
      rcases List.mem_append.1 hx with hx | hx
      · exact h.ms x hx
      · simp only [List.mem_singleton] at hx
        subst hx
        exact ⟨hs, hf, ht, hk⟩
    · rw [hr]; simp
    · rw [hr]
/-- what the first loop holds -/
structure AddedOk (R : Reg) (k : Int) : Prop where
  ok : RgOk R
  ms : R.ms = []
  secs : ∀ s ∈ R.secs, (1 ≤ s.id ∧ s.id < k) ∧ SecLike s.un s.is s.ma s.ra s.ev
  ne : (k = 1 ∧ R.secs = []) ∨ 0 < R.secs.length
theorem AddedOk.like {R : Reg} {k : Int} (h : AddedOk R k) (hk : k ≤ 4) (h1 : k ≠ 1) : RegLike R 0 := by
  refine ⟨h.ok, ?_, by omega, fun s hs => ⟨by have := (h.secs s hs).1; omega, (h.secs s hs).2⟩, fun m hm => by rw [h.ms] at hm; simp at hm, h.ne.resolve_left fun q => h1 q.1⟩
  rw [h.ok.day, h.ms]; rfl
theorem SecLike.ok1 {un is ma ra ev : Int} (h : SecLike un is ma ra ev) : secB 1 un is ma ra ev = true := by
  obtain ⟨h1, h2, h3, h4, h5, k, h6, h7, h8⟩ := h
  simp at h1 h2 h3 h4
  rcases h4 with rfl | rfl | rfl | rfl | rfl
  · have e : max (0 : Int) 1 = 1 := by decide
    rw [e] at h8
    exact secB_iff.2 ⟨by omega, by omega, by omega, by omega, by omega, by omega, by omega, by omega, by omega, by omega, .inl ⟨rfl, by omega, h5 rfl⟩⟩
  · have e : max (1 : Int) 1 = 1 := by decide
    rw [e] at h8
    exact secB_iff.2 ⟨by omega, by omega, by omega, by omega, by omega, by omega, by omega, by omega, by omega, by omega, .inr (.inl ⟨rfl, by omega⟩)⟩
  · have e : max (3 : Int) 1 = 3 := by decide
    rw [e] at h8
    exact secB_iff.2 ⟨by omega, by omega, by omega, by omega, by omega, by omega, by omega, by omega, by omega, by omega, .inr (.inr (.inl ⟨rfl, by omega⟩))⟩
  · have e : max (6 : Int) 1 = 6 := by decide
    rw [e] at h8
    exact secB_iff.2 ⟨by omega, by omega, by omega, by omega, by omega, by omega, by omega, by omega, by omega, by omega, .inr (.inr (.inr (.inl ⟨rfl, by omega⟩)))⟩
  · have e : max (12 : Int) 1 = 12 := by decide
    rw [e] at h8
    exact secB_iff.2 ⟨by omega, by omega, by omega, by omega, by omega, by omega, by omega, by omega, by omega, by omega, .inr (.inr (.inr (.inr ⟨rfl, by omega⟩)))⟩
theorem AddedOk.next {R : Reg} {k un is ma ra ev : Int} {ix : Bool} (h : AddedOk R k) (hl : SecLike un is ma ra ev) (hE : raE R ⟨k, un, is, ma, ra, ev, ix⟩ ≠ 0) : AddedOk R (k + 1) := by
  refine ⟨h.ok, h.ms, fun s hs => ⟨by have := (h.secs s hs).1; omega, (h.secs s hs).2⟩, .inr ?_⟩
  rcases h.ne with ⟨rfl, h0⟩ | h0
  · exact absurd (by
      unfold raE
      rw [if_pos (chkE_iff.2 h.ok), h0]
      have := hl.ok1
      simp [secOk, this, isS]) hE
  · exact h0
theorem AddedOk.add {R : Reg} {k un is ma ra ev : Int} {ix : Bool} (h : AddedOk R k) (hk : 1 ≤ k) (hl : SecLike un is ma ra ev) (hE : raE R ⟨k, un, is, ma, ra, ev, ix⟩ = 0) : AddedOk (raR R ⟨k, un, is, ma, ra, ev, ix⟩) (k + 1) ∧ 0 < (raR R ⟨k, un, is, ma, ra, ev, ix⟩).secs.length := by
  have ha := RgOk.add hE h.ms
  refine ⟨⟨ha.1, ha.2, fun s hs => ?_, .inr (by rw [raR_ok hE]; simp only [List.length_append, List.length_cons]; omega)⟩, ?_⟩
  · rw [raR_ok hE] at hs
    rcases List.mem_append.1 hs with hs | hs
    · have := h.secs s (List.mem_of_mem_take hs); exact ⟨by omega, this.2⟩
    · rcases List.mem_cons.1 hs with rfl | hs
      · exact ⟨⟨hk, by simp only; omega⟩, hl⟩
      · have := h.secs s (List.mem_of_mem_drop hs); exact ⟨by omega, this.2⟩
  · rw [raR_ok hE]; simp only [List.length_append, List.length_cons]; omega
/-- Add at a world behind a step of the source -/
theorem add_at {sb : Nat} {w w1 Wc : World} {vs vh vm : Value} {R : Reg} {k un is ma ra ev : Int} {ix : Bool} (hR1 : RgIn (fun b => w.heap.size + 2 ≤ b) w1 vs vh vm R) (hK : w1.grownBy Wc (some sb)) (hlt : sb < w.heap.size) (hok : RgOk R) (hnz : vs = .slice none 0 0 ∨ 0 < R.secs.length) :
    Calls Tryz.prog 122 #[.agg #[vs, vh, vm], .agg #[.int .i64 k, .int .i64 un, .int .i64 is, .int .i64 ma, .int .i64 ra, .int .i64 ev, .bool ix]] Wc (GaveR (fun b => (w.heap.size + 2 ≤ b ∧ b < w1.heap.size) ∨ Wc.heap.size ≤ b) (raR R ⟨k, un, is, ma, ra, ev, ix⟩) (raE R ⟨k, un, is, ma, ra, ev, ix⟩) Wc) :=
  fadd_any _ vs vh vm R k un is ma ra ev ix Wc (((hR1.mono (Q := fun b => w.heap.size + 2 ≤ b ∧ b < w1.heap.size) (fun b h hl => ⟨h, hl⟩)).grown hK (fun b h => by omega)).mono (fun b h _ => .inl h)) (by have := hok.ls; omega) (by have := hok.hl; omega) (by have := hok.lm; omega) (fun b h => .inr h) hnz
/-- what holds where the security has been added, or refused -/
structure AddAt (w : World) (sb : Nat) (w1 : World) (g : Nat) (Q : Reg) (b0 b1 b2 : Option Addr) (m0 d0 m1 d1 m2 d2 : Nat) (wx : World) : Prop where
  g0 : wx.cell? ⟨g, 0, none⟩ = some (.slice b0 m0 d0)
  g1 : wx.cell? ⟨g, 1, none⟩ = some (.slice b1 m1 d1)
  g2 : wx.cell? ⟨g, 2, none⟩ = some (.slice b2 m2 d2)
  old : ∀ k, k < w1.heap.size → k ≠ sb → wx.heap[k]? = w1.heap[k]?
  rg : RgIn (fun b => w.heap.size + 2 ≤ b) wx (.slice b0 m0 d0) (.slice b1 m1 d1) (.slice b2 m2 d2) Q
  src : SrcOk wx sb
  gr : w1.grownBy wx (some sb)
theorem added_set {w w1 Wc w3 : World} {sb g : Nat} {Q : Reg} {b0 b1 b2 : Option Addr} {m0 d0 m1 d1 m2 d2 : Nat} {T : TypeId} {u0 u1 u2 : Value} (hlt : sb < w.heap.size) (hz1 : w.heap.size + 2 ≤ w1.heap.size) (hK : w1.grownBy Wc (some sb)) (hSc : SrcOk Wc sb) (h3 : Below Wc.heap.size Wc w3) (hq : RgIn (fun b => (w.heap.size + 2 ≤ b ∧ b < w1.heap.size) ∨ Wc.heap.size ≤ b) w3 (.slice b0 m0 d0) (.slice b1 m1 d1) (.slice b2 m2 d2) Q)
    (hg : w1.heap.size ≤ g) (hg2 : g < Wc.heap.size) (hb : Wc.heap[g]? = some (.cells #[u0, u1, u2] T (0, 0))) :
    AddAt w sb w1 g Q b0 b1 b2 m0 d0 m1 d1 m2 d2 (((w3.setCell ⟨g, 0, none⟩ (.slice b0 m0 d0)).setCell ⟨g, 1, none⟩ (.slice b1 m1 d1)).setCell ⟨g, 2, none⟩ (.slice b2 m2 d2)) := by
  have hb3 := (h3.block g hg2).trans hb
  have e0 := heap_setCell_same w3 _ 0 _ _ (.slice b0 m0 d0) hb3
  have e1 := heap_setCell_same _ _ 1 _ _ (.slice b1 m1 d1) e0
  have e2 := heap_setCell_same _ _ 2 _ _ (.slice b2 m2 d2) e1
  have zK := hK.size
  have hB : Below w1.heap.size Wc (((w3.setCell ⟨g, 0, none⟩ (.slice b0 m0 d0)).setCell ⟨g, 1, none⟩ (.slice b1 m1 d1)).setCell ⟨g, 2, none⟩ (.slice b2 m2 d2)) := (h3.mono zK).trans (below_set3 w3 hg _ _ _)
  refine ⟨cell_heap (i := 0) e2 rfl, cell_heap (i := 1) e2 rfl, cell_heap (i := 2) e2 rfl, fun k hk hne => (hB.block k hk).trans (hK.block k hk (by simpa using hne)), ?_, srcOk_below hSc hB (by omega), ⟨hB.os.trans hK.os, hB.tape.trans hK.tape, hB.output.trans hK.output, Nat.le_trans hK.size hB.size, fun k hk hne => (hB.block k hk).trans (hK.block k hk hne)⟩⟩
  exact (hq.set3 (fun k hk => by omega)).mono (fun b h _ => h.elim (fun h => h.1) (fun h => by omega))
theorem added_new {w w1 Wc w3 : World} {sb : Nat} {Q : Reg} {b0 b1 b2 : Option Addr} {m0 d0 m1 d1 m2 d2 : Nat} {T : TypeId} (hlt : sb < w.heap.size) (hz1 : w.heap.size + 2 ≤ w1.heap.size) (hK : w1.grownBy Wc (some sb)) (hSc : SrcOk Wc sb) (h3 : Below Wc.heap.size Wc w3) (hq : RgIn (fun b => (w.heap.size + 2 ≤ b ∧ b < w1.heap.size) ∨ Wc.heap.size ≤ b) w3 (.slice b0 m0 d0) (.slice b1 m1 d1) (.slice b2 m2 d2) Q) :
    AddAt w sb w1 w3.heap.size Q b0 b1 b2 m0 d0 m1 d1 m2 d2 (w3.alloc (.cells #[.slice b0 m0 d0, .slice b1 m1 d1, .slice b2 m2 d2] T (0, 0))) := by
  have e2 := heap_alloc_new w3 (.cells #[.slice b0 m0 d0, .slice b1 m1 d1, .slice b2 m2 d2] T (0, 0))
  have zK := hK.size
  have z3 := h3.size
  have hB : Below w1.heap.size Wc (w3.alloc (.cells #[.slice b0 m0 d0, .slice b1 m1 d1, .slice b2 m2 d2] T (0, 0))) := (h3.mono zK).alloc (by omega) _
  refine ⟨cell_heap (i := 0) e2 rfl, cell_heap (i := 1) e2 rfl, cell_heap (i := 2) e2 rfl, fun k hk hne => (hB.block k hk).trans (hK.block k hk (by simpa using hne)), ?_, srcOk_below hSc hB (by omega), ⟨hB.os.trans hK.os, hB.tape.trans hK.tape, hB.output.trans hK.output, Nat.le_trans hK.size hB.size, fun k hk hne => (hB.block k hk).trans (hK.block k hk hne)⟩⟩
  exact (hq.below (bal brefl _)).mono (fun b h _ => h.elim (fun h => h.1) (fun h => by omega))
theorem box_below {w w3 : World} {C : Array Value} {T : TypeId} (hb : Below (w.alloc (.cells C T (0, 0))).heap.size (w.alloc (.cells C T (0, 0))) w3) : w3.heap[w.heap.size]? = some (.cells C T (0, 0)) := (hb.block _ (by simp)).trans (heap_alloc_new w _)
theorem box_grown {w w2 : World} {C : Array Value} {T : TypeId} {sb : Nat} (hG : (w.alloc (.cells C T (0, 0))).drew.grownBy w2 (some sb)) (hs : sb < w.heap.size) : w2.heap[w.heap.size]? = some (.cells C T (0, 0)) ∧ w.heap.size < w2.heap.size := by
  have z := (grownBy_undrew hG).size
  simp only [World.size_alloc] at z
  exact ⟨((grownBy_undrew hG).block _ (by simp) (by simp; omega)).trans (heap_alloc_new w _), by omega⟩
def vf_unl (l : Array Bool) : Nat := l.toList.count false
theorem vf_unl_set {l : Array Bool} {i : Nat} (h : l.getD i true = false) : vf_unl (l.setIfInBounds i true) + 1 = vf_unl l := by
  have hi : i < l.size := by
    rcases Nat.lt_or_ge i l.size with hi | hi
    · exact hi
    · rw [Array.getD_eq_getD_getElem?, Array.getElem?_eq_none hi] at h; simp at h
  have he : l[i] = false := by rw [Array.getD_eq_getD_getElem?, Array.getElem?_eq_getElem hi] at h; simpa using h
  have he' : l.toList[i] = false := by simpa using he
  have hm : 0 < l.toList.count false := List.count_pos_iff.2 (by rw [← he']; exact List.getElem_mem _)
  have hc := List.count_set (a := true) (b := false) (l := l.toList) (i := i) (by simpa using hi)
  have e : (l.setIfInBounds i true).toList = l.toList.set i true := by simp
  rw [if_pos (by rw [he']; rfl), if_neg (by decide)] at hc
  unfold vf_unl
  rw [e, hc]
  omega
theorem vf_unl_pos {l : Array Bool} {i : Nat} (h : l.getD i true = false) : 0 < vf_unl l := by have := vf_unl_set h; omega
section
variable {P : Program} {ops : Array Oper} {Q : Exit → Act → World → Prop} {md : Region.Mode}
theorem vf_anyP_inv {J : Array Bool → Act → World → Prop}
    (step : ∀ listed a w, J listed a w → ∀ i, i ∈ Region.ready md ops listed → ∀ K : Act → World → Prop, (∀ a' w', J (listed.setIfInBounds i true) a' w' → K a' w') → wpOp P ops Q i K a w)
    (fin : ∀ listed a w, J listed a w → Region.ready md ops listed = [] → Q .normal a w) :
    ∀ (fuel : Nat) (listed : Array Bool) (a : Act) (w : World), J listed a w → vf_unl listed ≤ fuel → wpAny P md ops Q fuel listed a w
  | 0, listed, a, w, hJ, hf => by
    have hr : Region.ready md ops listed = [] := List.eq_nil_iff_forall_not_mem.2 fun j hj => by
      have := vf_unl_pos (mem_ready.1 hj).1; omega
    exact ⟨hr, fin _ _ _ hJ hr⟩
  | fuel + 1, listed, a, w, hJ, hf =>
    ⟨fun hr => fin _ _ _ hJ hr, fun i hi => step listed a w hJ i hi _ fun a' w' h => vf_anyP_inv step fin fuel _ a' w' h (by have := vf_unl_set (mem_ready.1 hi).1; omega)⟩
theorem vf_wpOpP_of {i : Nat} {o : Oper} {K : Act → World → Prop} {a : Act} {w : World} (ho : ops[i]? = some o) (hw : Region.wanted o (yielded ops a.tmps) = true) (h : o.wp P a w K Q) : wpOp P ops Q i K a w := by
  unfold wpOp; rw [ho]; simp only [hw, if_true]; exact .inl h
def vf_backB (md : Region.Mode) (ops : Array Oper) : Bool := (List.range ops.size).all fun j => match ops[j]? with | some o => o.after.all (fun e => !Region.binds md e || decide (e.on < j)) | none => true
theorem vf_ready_full {listed : Array Bool} (hs : listed.size = ops.size) (hr : Region.ready md ops listed = []) (hb : vf_backB md ops = true) : ∀ j, j < ops.size → listed.getD j false = true := by
  intro j
  induction j using Nat.strongRecOn with
  | ind j ih =>
    intro hj
    cases hl : listed.getD j true with
    | true =>
      have hj' : j < listed.size := by omega
      rw [Array.getD_eq_getD_getElem?, Array.getElem?_eq_getElem hj'] at hl ⊢
      simpa using hl
    | false =>
      exfalso
      have hbj := List.all_eq_true.1 hb j (List.mem_range.2 hj)
      rw [Array.getElem?_eq_getElem hj] at hbj
      have hm : j ∈ Region.ready md ops listed := mem_ready.2 ⟨hl, ops[j], Array.getElem?_eq_getElem hj, fun e he hbi => by
        have := (Array.all_eq_true_iff_forall_mem.1 hbj) e he
        rw [hbi] at this
        have hlt : e.on < j := by simpa using this
        exact ih e.on hlt (by omega)⟩
      rw [hr] at hm
      cases hm
end
theorem vf_listed_ne {l : Array Bool} {i j : Nat} (h : i ≠ j) (hh : (l.setIfInBounds i true).getD j false = true) : l.getD j false = true := by rw [getD_set_ne _ h] at hh; exact hh
theorem vf_listed_keep {l : Array Bool} {i j : Nat} (hh : l.getD j false = true) : (l.setIfInBounds i true).getD j false = true := getD_set_true hh
theorem vf_listed_no {l : Array Bool} {i : Nat} (h : l.getD i true = false) : l.getD i false = false := by
  rw [Array.getD_eq_getD_getElem?] at h ⊢
  cases he : l[i]? with
  | none => rw [he] at h; simp at h
  | some b => rw [he] at h; simpa using h
theorem vf_listed_self {l : Array Bool} {i : Nat} (h : l.getD i true = false) : (l.setIfInBounds i true).getD i false = true := by
  have hi : i < l.size := by
    rcases Nat.lt_or_ge i l.size with hi | hi
    · exact hi
    · rw [Array.getD_eq_getD_getElem?, Array.getElem?_eq_none hi] at h; simp at h
  rw [Array.getD_eq_getD_getElem?, Array.getElem?_setIfInBounds]
  simp [hi]
def pkA : List Int := [1, 10, 100, 1000]
def pkB : List Int := [1000, 5000]
/-- two picks, the security made of them, and Add -/
structure M2 (W0 : World) (sb B : Nat) (s1 p1 s2 p2 bd ad mv ex st : Bool) (t10 t11 t13 t14 t15 t16 t7 t17 : Value) (w' : World) : Prop where
  pre : ad = false → st = false ∧ SrcOk w' sb ∧ W0.grownBy w' (some sb)
  q10 : s1 = true → p1 = false → ad = false ∧ ∃ g, t10 = .slice (some ⟨g, 0, none⟩) 4 4 ∧ g ≠ sb ∧ w'.heap[g]? = some (.cells #[.int .i64 1, .int .i64 10, .int .i64 100, .int .i64 1000] 3 (0, 0))
  q13 : s2 = true → p2 = false → ad = false ∧ ∃ g, t13 = .slice (some ⟨g, 0, none⟩) 2 2 ∧ g ≠ sb ∧ w'.heap[g]? = some (.cells #[.int .i64 1000, .int .i64 5000] 3 (0, 0))
  q11 : p1 = true → s1 = true ∧ ∃ u, t11 = .int .i64 u ∧ u ∈ pkA
  q14 : p2 = true → s2 = true ∧ ∃ u, t14 = .int .i64 u ∧ u ∈ pkB
  q15 : bd = true → p1 = true ∧ p2 = true ∧ t15 = .agg #[.int .i64 1, t11, .int .i64 0, .int .i64 1800, t14, .int .i64 6, .bool false]
  q16 : ad = true → bd = true ∧ ∃ (b0 b1 b2 : Option Addr) (m0 d0 m1 d1 m2 d2 : Nat) (u r : Int) (U : World), UnR38 u r ∧ t16 = .tuple #[.agg #[.slice b0 m0 d0, .slice b1 m1 d1, .slice b2 m2 d2], .int .i64 0] ∧ RgIn (fun b => B < b) U (.slice b0 m0 d0) (.slice b1 m1 d1) (.slice b2 m2 d2) (eR u r []) ∧ SrcOk U sb ∧ W0.grownBy U (some sb) ∧ (st = false → w' = U) ∧ (st = true → w' = ((U.setCell ⟨B, 0, none⟩ (.slice b0 m0 d0)).setCell ⟨B, 1, none⟩ (.slice b1 m1 d1)).setCell ⟨B, 2, none⟩ (.slice b2 m2 d2))
  qmv : mv = true → ad = true ∧ t7 = t16
  qex : ex = true → mv = true ∧ ∃ v i, t16 = .tuple #[v, i] ∧ t17 = v
section
variable {W0 w' w9 : World} {sb B : Nat} {s1 p1 s2 p2 bd ad mv ex st : Bool} {t10 t11 t13 t14 t15 t16 t7 t17 : Value}
theorem M2.start (hS : SrcOk w' sb) (hG : W0.grownBy w' (some sb)) : M2 W0 sb B false false false false false false false false false t10 t11 t13 t14 t15 t16 t7 t17 w' :=
  ⟨fun _ => ⟨rfl, hS, hG⟩, fun h => (by cases h), fun h => (by cases h), fun h => (by cases h), fun h => (by cases h), fun h => (by cases h), fun h => (by cases h), fun h => (by cases h), fun h => (by cases h)⟩
theorem M2.off (h : M2 W0 sb B s1 p1 s2 p2 bd ad mv ex st t10 t11 t13 t14 t15 t16 t7 t17 w') (hb : bd = false) : ad = false ∧ mv = false ∧ ex = false := by
  have h1 : ad = false := Bool.eq_false_iff.2 fun e => by have := (h.q16 e).1; rw [hb] at this; cases this
  have h2 : mv = false := Bool.eq_false_iff.2 fun e => by have := (h.qmv e).1; rw [h1] at this; cases this
  exact ⟨h1, h2, Bool.eq_false_iff.2 fun e => by have := (h.qex e).1; rw [h2] at this; cases this⟩
theorem M2.offp (h : M2 W0 sb B s1 p1 s2 p2 bd ad mv ex st t10 t11 t13 t14 t15 t16 t7 t17 w') (hb : p1 = false ∨ p2 = false) : bd = false := Bool.eq_false_iff.2 fun e => by
  obtain ⟨h1, h2, -⟩ := h.q15 e
  rcases hb with hb | hb
  · rw [hb] at h1; cases h1
  · rw [hb] at h2; cases h2
theorem M2.sliced1 (h : M2 W0 sb B false p1 s2 p2 bd ad mv ex st t10 t11 t13 t14 t15 t16 t7 t17 w') (hs : sb < W0.heap.size) : M2 W0 sb B true p1 s2 p2 bd ad mv ex st (.slice (some ⟨w'.heap.size, 0, none⟩) 4 4) t11 t13 t14 t15 t16 t7 t17 (w'.alloc (.cells #[.int .i64 1, .int .i64 10, .int .i64 100, .int .i64 1000] 3 (0, 0))) := by
  have hp : p1 = false := Bool.eq_false_iff.2 fun e => by have := (h.q11 e).1; cases this
  subst hp
  have hbd := h.offp (.inl rfl)
  obtain ⟨ha, hm, he⟩ := h.off hbd
  subst ha hm he hbd
  obtain ⟨hst, hS, hG⟩ := h.pre rfl
  subst hst
  refine ⟨fun _ => ⟨rfl, srcOk_alloc hS _, grownBy_trans hG (World.grownBy_alloc _ _ _)⟩, fun _ _ => ⟨rfl, _, rfl, by have := hG.size; omega, heap_alloc_new w' _⟩, fun a b => ?_, fun h => (by cases h), h.q14, fun h => (by cases h), fun h => (by cases h), fun h => (by cases h), fun h => (by cases h)⟩
  obtain ⟨-, g, e1, e2, e3⟩ := h.q13 a b
  exact ⟨rfl, g, e1, e2, (heap_alloc_old w' _ (Array.getElem?_eq_some_iff.1 e3).1).trans e3⟩
theorem M2.sliced2 (h : M2 W0 sb B s1 p1 false p2 bd ad mv ex st t10 t11 t13 t14 t15 t16 t7 t17 w') (hs : sb < W0.heap.size) : M2 W0 sb B s1 p1 true p2 bd ad mv ex st t10 t11 (.slice (some ⟨w'.heap.size, 0, none⟩) 2 2) t14 t15 t16 t7 t17 (w'.alloc (.cells #[.int .i64 1000, .int .i64 5000] 3 (0, 0))) := by
  have hp : p2 = false := Bool.eq_false_iff.2 fun e => by have := (h.q14 e).1; cases this
  subst hp
  have hbd := h.offp (.inr rfl)
  obtain ⟨ha, hm, he⟩ := h.off hbd
  subst ha hm he hbd
  obtain ⟨hst, hS, hG⟩ := h.pre rfl
  subst hst
  refine ⟨fun _ => ⟨rfl, srcOk_alloc hS _, grownBy_trans hG (World.grownBy_alloc _ _ _)⟩, fun a b => ?_, fun _ _ => ⟨rfl, _, rfl, by have := hG.size; omega, heap_alloc_new w' _⟩, h.q11, fun h => (by cases h), fun h => (by cases h), fun h => (by cases h), fun h => (by cases h), fun h => (by cases h)⟩
  obtain ⟨-, g, e1, e2, e3⟩ := h.q10 a b
  exact ⟨rfl, g, e1, e2, (heap_alloc_old w' _ (Array.getElem?_eq_some_iff.1 e3).1).trans e3⟩
theorem M2.picked1 (h : M2 W0 sb B true false s2 p2 bd ad mv ex st t10 t11 t13 t14 t15 t16 t7 t17 w') {u : Int} (hu : u ∈ pkA) (hS9 : SrcOk w9 sb) (hG9 : w'.grownBy w9 (some sb)) : M2 W0 sb B true true s2 p2 bd ad mv ex st t10 (.int .i64 u) t13 t14 t15 t16 t7 t17 w9 := by
  have hbd := h.offp (.inl rfl)
  obtain ⟨ha, hm, he⟩ := h.off hbd
  subst ha hm he hbd
  obtain ⟨hst, hS, hG⟩ := h.pre rfl
  subst hst
  refine ⟨fun _ => ⟨rfl, hS9, grownBy_trans hG hG9⟩, fun _ h => (by cases h), fun a b => ?_, fun _ => ⟨rfl, u, rfl, hu⟩, h.q14, fun h => (by cases h), fun h => (by cases h), fun h => (by cases h), fun h => (by cases h)⟩
  obtain ⟨-, g, e1, e2, e3⟩ := h.q13 a b
  exact ⟨rfl, g, e1, e2, (hG9.block g (Array.getElem?_eq_some_iff.1 e3).1 (by simpa using e2)).trans e3⟩
theorem M2.picked2 (h : M2 W0 sb B s1 p1 true false bd ad mv ex st t10 t11 t13 t14 t15 t16 t7 t17 w') {u : Int} (hu : u ∈ pkB) (hS9 : SrcOk w9 sb) (hG9 : w'.grownBy w9 (some sb)) : M2 W0 sb B s1 p1 true true bd ad mv ex st t10 t11 t13 (.int .i64 u) t15 t16 t7 t17 w9 := by
  have hbd := h.offp (.inr rfl)
  obtain ⟨ha, hm, he⟩ := h.off hbd
  subst ha hm he hbd
  obtain ⟨hst, hS, hG⟩ := h.pre rfl
  subst hst
  refine ⟨fun _ => ⟨rfl, hS9, grownBy_trans hG hG9⟩, fun a b => ?_, fun _ h => (by cases h), h.q11, fun _ => ⟨rfl, u, rfl, hu⟩, fun h => (by cases h), fun h => (by cases h), fun h => (by cases h), fun h => (by cases h)⟩
  obtain ⟨-, g, e1, e2, e3⟩ := h.q10 a b
  exact ⟨rfl, g, e1, e2, (hG9.block g (Array.getElem?_eq_some_iff.1 e3).1 (by simpa using e2)).trans e3⟩
theorem M2.built (h : M2 W0 sb B s1 true s2 true false ad mv ex st t10 t11 t13 t14 t15 t16 t7 t17 w') : M2 W0 sb B s1 true s2 true true ad mv ex st t10 t11 t13 t14 (.agg #[.int .i64 1, t11, .int .i64 0, .int .i64 1800, t14, .int .i64 6, .bool false]) t16 t7 t17 w' := by
  obtain ⟨ha, hm, he⟩ := h.off rfl
  subst ha hm he
  exact ⟨h.pre, h.q10, h.q13, h.q11, h.q14, fun _ => ⟨rfl, rfl, rfl⟩, fun h => (by cases h), fun h => (by cases h), fun h => (by cases h)⟩
theorem M2.shape (h : M2 W0 sb B s1 p1 s2 p2 true false mv ex st t10 t11 t13 t14 t15 t16 t7 t17 w') : ∃ u r, UnR38 u r ∧ t15 = .agg #[.int .i64 1, .int .i64 u, .int .i64 0, .int .i64 1800, .int .i64 r, .int .i64 6, .bool false] ∧ SrcOk w' sb ∧ W0.grownBy w' (some sb) := by
  obtain ⟨hp1, hp2, h15⟩ := h.q15 rfl
  obtain ⟨-, u, e1, hu⟩ := h.q11 hp1
  obtain ⟨-, r, e2, hr⟩ := h.q14 hp2
  obtain ⟨-, hS, hG⟩ := h.pre rfl
  exact ⟨u, r, ⟨hu, hr⟩, by rw [h15, e1, e2], hS, hG⟩
theorem M2.added (h : M2 W0 sb B s1 p1 s2 p2 true false mv ex st t10 t11 t13 t14 t15 t16 t7 t17 w') {u r : Int} {b0 b1 b2 : Option Addr} {m0 d0 m1 d1 m2 d2 : Nat} (hur : UnR38 u r) (hsB : sb < w'.heap.size) (hb : Below w'.heap.size w' w9) (hq : RgIn (fun b => B < b) w9 (.slice b0 m0 d0) (.slice b1 m1 d1) (.slice b2 m2 d2) (eR u r [])) :
    M2 W0 sb B s1 p1 s2 p2 true true mv ex st t10 t11 t13 t14 t15 (.tuple #[.agg #[.slice b0 m0 d0, .slice b1 m1 d1, .slice b2 m2 d2], .int .i64 0]) t7 t17 w9 := by
  have hm : mv = false := Bool.eq_false_iff.2 fun e => by have := (h.qmv e).1; cases this
  have he : ex = false := Bool.eq_false_iff.2 fun e => by have := (h.qex e).1; rw [hm] at this; cases this
  obtain ⟨hst, hS, hG⟩ := h.pre rfl
  subst hm he hst
  obtain ⟨hp1, hp2, -⟩ := h.q15 rfl
  refine ⟨fun h => (by cases h), fun a b => ?_, fun a b => ?_, h.q11, h.q14, h.q15, fun _ => ⟨rfl, b0, b1, b2, m0, d0, m1, d1, m2, d2, u, r, w9, hur, rfl, hq, srcOk_below hS hb hsB, grownBy_trans hG ⟨hb.os, hb.tape, hb.output, hb.size, fun k hk _ => hb.block k hk⟩, fun _ => rfl, fun h => (by cases h)⟩, fun h => (by cases h), fun h => (by cases h)⟩
  · rw [hp1] at b; cases b
  · rw [hp2] at b; cases b
theorem M2.moved (h : M2 W0 sb B s1 p1 s2 p2 bd true false ex st t10 t11 t13 t14 t15 t16 t7 t17 w') : M2 W0 sb B s1 p1 s2 p2 bd true true ex st t10 t11 t13 t14 t15 t16 t16 t17 w' := by
  have he : ex = false := Bool.eq_false_iff.2 fun e => by have := (h.qex e).1; cases this
  subst he
  exact ⟨h.pre, h.q10, h.q13, h.q11, h.q14, h.q15, h.q16, fun _ => ⟨rfl, rfl⟩, fun h => (by cases h)⟩
theorem M2.seven (h : M2 W0 sb B s1 p1 s2 p2 bd ad true ex st t10 t11 t13 t14 t15 t16 t7 t17 w') : ∃ (b0 b1 b2 : Option Addr) (m0 d0 m1 d1 m2 d2 : Nat), t7 = .tuple #[.agg #[.slice b0 m0 d0, .slice b1 m1 d1, .slice b2 m2 d2], .int .i64 0] ∧ t16 = .tuple #[.agg #[.slice b0 m0 d0, .slice b1 m1 d1, .slice b2 m2 d2], .int .i64 0] := by
  obtain ⟨ha, h7⟩ := h.qmv rfl
  obtain ⟨-, b0, b1, b2, m0, d0, m1, d1, m2, d2, u, r, U, -, e, -⟩ := h.q16 ha
  exact ⟨b0, b1, b2, m0, d0, m1, d1, m2, d2, by rw [h7, e], e⟩
theorem M2.drawn {v i : Value} (h : M2 W0 sb B s1 p1 s2 p2 bd ad true false st t10 t11 t13 t14 t15 (.tuple #[v, i]) t7 t17 w') : M2 W0 sb B s1 p1 s2 p2 bd ad true true st t10 t11 t13 t14 t15 (.tuple #[v, i]) t7 v w' :=
  ⟨h.pre, h.q10, h.q13, h.q11, h.q14, h.q15, h.q16, h.qmv, fun _ => ⟨rfl, v, i, rfl, rfl⟩⟩
theorem M2.last (h : M2 W0 sb B s1 p1 s2 p2 bd ad mv true false t10 t11 t13 t14 t15 t16 t7 t17 w') : ∃ (b0 b1 b2 : Option Addr) (m0 d0 m1 d1 m2 d2 : Nat), t17 = .agg #[.slice b0 m0 d0, .slice b1 m1 d1, .slice b2 m2 d2] ∧ t16 = .tuple #[.agg #[.slice b0 m0 d0, .slice b1 m1 d1, .slice b2 m2 d2], .int .i64 0] ∧ W0.grownBy w' (some sb) := by
  obtain ⟨hm, v, i, e1, e2⟩ := h.qex rfl
  obtain ⟨ha, h7⟩ := h.qmv hm
  obtain ⟨-, b0, b1, b2, m0, d0, m1, d1, m2, d2, u, r, U, -, e, -, -, hG, hU, -⟩ := h.q16 ha
  rw [e] at e1
  cases e1
  exact ⟨b0, b1, b2, m0, d0, m1, d1, m2, d2, e2, e, by rw [hU rfl]; exact hG⟩
theorem M2.stored {b0 b1 b2 : Option Addr} {m0 d0 m1 d1 m2 d2 : Nat} {i : Value} (h : M2 W0 sb B s1 p1 s2 p2 bd ad mv true false t10 t11 t13 t14 t15 (.tuple #[.agg #[.slice b0 m0 d0, .slice b1 m1 d1, .slice b2 m2 d2], i]) t7 t17 w') : M2 W0 sb B s1 p1 s2 p2 bd ad mv true true t10 t11 t13 t14 t15 (.tuple #[.agg #[.slice b0 m0 d0, .slice b1 m1 d1, .slice b2 m2 d2], i]) t7 t17 (((w'.setCell ⟨B, 0, none⟩ (.slice b0 m0 d0)).setCell ⟨B, 1, none⟩ (.slice b1 m1 d1)).setCell ⟨B, 2, none⟩ (.slice b2 m2 d2)) := by
  obtain ⟨hm, v, i', e1, e2⟩ := h.qex rfl
  obtain ⟨ha, h7⟩ := h.qmv hm
  obtain ⟨hbd, c0, c1, c2, n0, f0, n1, f1, n2, f2, u, r, U, h1, e, h2, h3, h4, hU, -⟩ := h.q16 ha
  cases e
  have := hU rfl
  subst this
  obtain ⟨hp1, hp2, -⟩ := h.q15 hbd
  subst ha
  refine ⟨fun h => (by cases h), fun a b => ?_, fun a b => ?_, h.q11, h.q14, h.q15, fun _ => ⟨hbd, b0, b1, b2, m0, d0, m1, d1, m2, d2, u, r, w', h1, rfl, h2, h3, h4, fun h => (by cases h), fun _ => rfl⟩, fun _ => ⟨rfl, h7⟩, fun _ => ⟨hm, _, _, rfl, by cases e1; exact e2⟩⟩
  · rw [hp1] at b; cases b
  · rw [hp2] at b; cases b
theorem M2.fin (h : M2 W0 sb B s1 p1 s2 p2 bd true mv ex true t10 t11 t13 t14 t15 t16 t7 t17 w') : ∃ (b0 b1 b2 : Option Addr) (m0 d0 m1 d1 m2 d2 : Nat) (u r : Int) (U : World), UnR38 u r ∧ RgIn (fun b => B < b) U (.slice b0 m0 d0) (.slice b1 m1 d1) (.slice b2 m2 d2) (eR u r []) ∧ SrcOk U sb ∧ W0.grownBy U (some sb) ∧ w' = ((U.setCell ⟨B, 0, none⟩ (.slice b0 m0 d0)).setCell ⟨B, 1, none⟩ (.slice b1 m1 d1)).setCell ⟨B, 2, none⟩ (.slice b2 m2 d2) := by
  obtain ⟨-, b0, b1, b2, m0, d0, m1, d1, m2, d2, u, r, U, h1, -, h2, h3, h4, -, hU⟩ := h.q16 rfl
  exact ⟨b0, b1, b2, m0, d0, m1, d1, m2, d2, u, r, U, h1, h2, h3, h4, hU rfl⟩
end
theorem pkA_cells {w : World} {g : Nat} (h : w.heap[g]? = some (.cells #[.int .i64 1, .int .i64 10, .int .i64 100, .int .i64 1000] 3 (0, 0))) : ∀ i, (hi : i < pkA.length) → w.cell? ⟨g, i, none⟩ = some (.int .i64 pkA[i]) := by
  intro i hi
  rw [cell_of_row w g i _ 3 (0, 0) h]
  match i, hi with
  | 0, _ => rfl
  | 1, _ => rfl
  | 2, _ => rfl
  | 3, _ => rfl
theorem pkB_cells {w : World} {g : Nat} (h : w.heap[g]? = some (.cells #[.int .i64 1000, .int .i64 5000] 3 (0, 0))) : ∀ i, (hi : i < pkB.length) → w.cell? ⟨g, i, none⟩ = some (.int .i64 pkB[i]) := by
  intro i hi
  rw [cell_of_row w g i _ 3 (0, 0) h]
  match i, hi with
  | 0, _ => rfl
  | 1, _ => rfl
theorem iss38 {sb : Nat} {w w1 Wc : World} {vs vh vm : Value} {R : Reg} {t a : Int} (hR1 : RgIn (fun b => w.heap.size + 2 ≤ b) w1 vs vh vm R) (hK : w1.grownBy Wc (some sb)) (hlt : sb < w.heap.size) (hok : RgOk R) :
    Calls Tryz.prog 158 #[.agg #[vs, vh, vm], .int .i64 0, .int .i64 1, .int .i64 t, .int .i64 a] Wc (GaveR (fun b => (w.heap.size + 2 ≤ b ∧ b < w1.heap.size) ∨ Wc.heap.size ≤ b) (rmR R ⟨0, 0, 1, 1, 0, t, a⟩) (rmE R ⟨0, 0, 1, 1, 0, t, a⟩) Wc) :=
  fIssue_any _ vs vh vm R 0 1 t a Wc (((hR1.mono (Q := fun b => w.heap.size + 2 ≤ b ∧ b < w1.heap.size) (fun b h hl => ⟨h, hl⟩)).grown hK (fun b h => by omega)).mono (fun b h _ => .inl h)) (by have := hok.ls; omega) (by have := hok.hl; omega) (by have := hok.lm; omega) (fun b h => .inr (by omega))
theorem box_keptM {w w2 : World} {x : Obj} {sb g : Nat} (hG : w.grownBy w2 (some sb)) (hg : w.heap[g]? = some x) (hlt : g < w.heap.size) (hne : g ≠ sb) : w2.heap[g]? = some x ∧ g < w2.heap.size := ⟨(hG.block g hlt (by simpa using hne)).trans hg, Nat.lt_of_lt_of_le hlt hG.size⟩
theorem box_grownM {w w2 : World} {C : Array Value} {T : TypeId} {sb : Nat} (hG : (w.alloc (.cells C T (0, 0))).grownBy w2 (some sb)) (hs : sb < w.heap.size) : w2.heap[w.heap.size]? = some (.cells C T (0, 0)) ∧ w.heap.size < w2.heap.size := by
  have z := hG.size
  simp only [World.size_alloc] at z
  exact ⟨(hG.block _ (by simp) (by simp; omega)).trans (heap_alloc_new w _), by omega⟩
/-- what market leaves -/
def M38W (w : World) (sb : Nat) (e : Ending) (w' : World) : Prop :=
  ∃ vs vh vm un ra L, e = .returned (.agg #[vs, vh, vm]) ∧ L.length = 4 ∧ EAt un ra L ∧ RgIn (fun b => w.heap.size + 2 ≤ b) w' vs vh vm (eR un ra L) ∧ SrcOk w' sb ∧ w.grownBy w' (some sb)
set_option maxHeartbeats 16000000 in
set_option maxRecDepth 100000 in
theorem market38_any (sb : Nat) (w : World) (hs : SrcOk w sb) :
    Calls Tryz.prog 89 #[.pointer (some ⟨sb, 0, none⟩)] w (M38W w sb) := by
  have hlt := srcOk_lt hs
  go_enter Tryz.func89, Tryz.ntmps89
  go_wp2
  obtain ⟨W0, hW0⟩ : ∃ W, W = (w.alloc (.cells #[.slice none 0 0, .slice none 0 0, .slice none 0 0] 31)).alloc (.cells #[.slice none 0 0, .slice none 0 0, .slice none 0 0] 31) := ⟨_, rfl⟩
  have hg0 : w.grownBy W0 (some sb) := by rw [hW0]; exact grownBy_trans (World.grownBy_alloc _ _ _) (World.grownBy_alloc _ _ _)
  have hS0 : SrcOk W0 sb := by rw [hW0]; exact srcOk_alloc (srcOk_alloc hs _) _
  have hX0 : W0.heap[w.heap.size]? = some (.cells #[.slice none 0 0, .slice none 0 0, .slice none 0 0] 31 (0, 0)) := by rw [hW0]; exact (heap_alloc_old _ _ (by simp)).trans (heap_alloc_new w _)
  have hY0 : W0.heap[w.heap.size + 1]? = some (.cells #[.slice none 0 0, .slice none 0 0, .slice none 0 0] 31 (0, 0)) := by rw [hW0]; exact heap_at (by simp)
  have zW0 : W0.heap.size = w.heap.size + 2 := by rw [hW0]; simp
  have hsW0 : sb < W0.heap.size := by omega
  have HG0 := Lib.hid hg0
  have HS0 := Lib.hid hS0
  have HX0 := Lib.hid hX0
  have HY0 := Lib.hid hY0
  have HZ0 := Lib.hid zW0
  rw [← hW0]
  clear hW0 hg0 hS0 hX0 hY0 zW0 hs
  go_upto_region 2 with fail
  refine wp_region_any (by kernel_rfl) ?_
  change wpAny _ _ _ _ _ _ _ (World.drew _)
  refine vf_anyP_inv (J := fun listed a' w' => ∃ t7 t8 t9 t10 t11 t12 t13 t14 t15 t16 t17 t18 : Value, a' = { tmps := #[.pointer (some ⟨sb, 0, none⟩), undef, .pointer (some ⟨w.heap.size, 0, none⟩), .pointer (some ⟨w.heap.size + 1, 0, none⟩), undef, undef, undef, t7, t8, t9, t10, t11, t12, t13, t14, t15, t16, t17, t18, undef, undef, undef, undef, undef, undef, undef, undef, undef, undef, undef, undef, undef, undef, undef, undef, undef], defers := [] } ∧ listed.size = 13 ∧ (listed.getD 0 false = true → t8 = .agg #[.slice none 0 0, .slice none 0 0, .slice none 0 0]) ∧ (listed.getD 1 false = true → t9 = .pointer (some ⟨sb, 0, none⟩)) ∧ (listed.getD 4 false = true → t12 = .pointer (some ⟨sb, 0, none⟩)) ∧ (listed.getD 3 false = true → listed.getD 1 false = true ∧ listed.getD 2 false = true) ∧ (listed.getD 6 false = true → listed.getD 4 false = true ∧ listed.getD 5 false = true) ∧ (listed.getD 7 false = true → listed.getD 3 false = true ∧ listed.getD 6 false = true) ∧ (listed.getD 8 false = true → listed.getD 0 false = true ∧ listed.getD 7 false = true) ∧ (listed.getD 9 false = true → listed.getD 8 false = true) ∧ (listed.getD 10 false = true → listed.getD 9 false = true) ∧ (listed.getD 11 false = true → listed.getD 9 false = true) ∧ (listed.getD 12 false = true → listed.getD 10 false = true) ∧ M2 W0 sb (w.heap.size + 1) (listed.getD 2 false) (listed.getD 3 false) (listed.getD 5 false) (listed.getD 6 false) (listed.getD 7 false) (listed.getD 8 false) (listed.getD 9 false) (listed.getD 10 false) (listed.getD 12 false) t10 t11 t13 t14 t15 t16 t7 t17 w') ?step ?fin _ _ _ _ ⟨_, _, _, _, _, _, _, _, _, _, _, _, rfl, rfl, fun h => by simp at h, fun h => by simp at h, fun h => by simp at h, fun h => by simp at h, fun h => by simp at h, fun h => by simp at h, fun h => by simp at h, fun h => by simp at h, fun h => by simp at h, fun h => by simp at h, fun h => by simp at h, M2.start (srcOk_drewN HS0.out 1) (grownBy_drewN W0 1 _)⟩ (by decide)
  case step =>
    rintro listed a' w' ⟨t7, t8, t9, t10, t11, t12, t13, t14, t15, t16, t17, t18, rfl, hsz, f0, f1, f4, o3, o6, o7, o8, o9, o10, o11, o12, hvb⟩ i hi K hK
    obtain ⟨hni, o, ho, hdep⟩ := mem_ready.1 hi
    have hin : i < 13 := (Array.getElem?_eq_some_iff.1 ho).1
    have hself := vf_listed_self hni
    have hno := vf_listed_no hni
    rcases (show i = 0 ∨ i = 1 ∨ i = 2 ∨ i = 3 ∨ i = 4 ∨ i = 5 ∨ i = 6 ∨ i = 7 ∨ i = 8 ∨ i = 9 ∨ i = 10 ∨ i = 11 ∨ i = 12 by omega) with rfl | rfl | rfl | rfl | rfl | rfl | rfl | rfl | rfl | rfl | rfl | rfl | rfl
    · injection ho with ho
      subst ho
      have g2 : (listed.setIfInBounds 0 true).getD 2 false = listed.getD 2 false := getD_set_ne _ (by decide)
      have g3 : (listed.setIfInBounds 0 true).getD 3 false = listed.getD 3 false := getD_set_ne _ (by decide)
      have g5 : (listed.setIfInBounds 0 true).getD 5 false = listed.getD 5 false := getD_set_ne _ (by decide)
      have g6 : (listed.setIfInBounds 0 true).getD 6 false = listed.getD 6 false := getD_set_ne _ (by decide)
      have g7 : (listed.setIfInBounds 0 true).getD 7 false = listed.getD 7 false := getD_set_ne _ (by decide)
      have g8 : (listed.setIfInBounds 0 true).getD 8 false = listed.getD 8 false := getD_set_ne _ (by decide)
      have g9 : (listed.setIfInBounds 0 true).getD 9 false = listed.getD 9 false := getD_set_ne _ (by decide)
      have g10 : (listed.setIfInBounds 0 true).getD 10 false = listed.getD 10 false := getD_set_ne _ (by decide)
      have g12 : (listed.setIfInBounds 0 true).getD 12 false = listed.getD 12 false := getD_set_ne _ (by decide)
      have n8 : listed.getD 8 false = false := by
        cases h : listed.getD 8 false with
        | false => rfl
        | true => have q := (o8 h).1; rw [hno] at q; cases q
      rw [n8] at hvb
      have HZ := HZ0.out
      have y0 : w'.cell? ⟨w.heap.size + 1, 0, none⟩ = some (.slice none 0 0) := cell_heap ((hvb.pre rfl).2.2.block _ (by omega) (by simp; omega) |>.trans HY0.out) rfl
      have y1 : w'.cell? ⟨w.heap.size + 1, 1, none⟩ = some (.slice none 0 0) := cell_heap ((hvb.pre rfl).2.2.block _ (by omega) (by simp; omega) |>.trans HY0.out) rfl
      have y2 : w'.cell? ⟨w.heap.size + 1, 2, none⟩ = some (.slice none 0 0) := cell_heap ((hvb.pre rfl).2.2.block _ (by omega) (by simp; omega) |>.trans HY0.out) rfl
      have HVB := Lib.hid hvb
      clear hi hdep hvb
      refine vf_wpOpP_of rfl rfl ?_
      go_simp
      exact hK _ _ ⟨_, (.agg #[.slice none 0 0, .slice none 0 0, .slice none 0 0]), _, _, _, _, _, _, _, _, _, _, rfl, by simpa using hsz, fun _ => rfl, fun h => by first | exact f1 (vf_listed_ne (by decide) h) | rfl, fun h => by first | exact f4 (vf_listed_ne (by decide) h) | rfl, fun h => by have q := o3 (vf_listed_ne (by decide) h); exact ⟨vf_listed_keep q.1, vf_listed_keep q.2⟩, fun h => by have q := o6 (vf_listed_ne (by decide) h); exact ⟨vf_listed_keep q.1, vf_listed_keep q.2⟩, fun h => by have q := o7 (vf_listed_ne (by decide) h); exact ⟨vf_listed_keep q.1, vf_listed_keep q.2⟩, fun h => by have q := o8 (vf_listed_ne (by decide) h); exact ⟨vf_listed_keep q.1, vf_listed_keep q.2⟩, fun h => vf_listed_keep (o9 (vf_listed_ne (by decide) h)), fun h => vf_listed_keep (o10 (vf_listed_ne (by decide) h)), fun h => vf_listed_keep (o11 (vf_listed_ne (by decide) h)), fun h => vf_listed_keep (o12 (vf_listed_ne (by decide) h)), by rw [g2, g3, g5, g6, g7, g8, g9, g10, g12, n8]; exact HVB.out⟩
    · injection ho with ho
      subst ho
      have g2 : (listed.setIfInBounds 1 true).getD 2 false = listed.getD 2 false := getD_set_ne _ (by decide)
      have g3 : (listed.setIfInBounds 1 true).getD 3 false = listed.getD 3 false := getD_set_ne _ (by decide)
      have g5 : (listed.setIfInBounds 1 true).getD 5 false = listed.getD 5 false := getD_set_ne _ (by decide)
      have g6 : (listed.setIfInBounds 1 true).getD 6 false = listed.getD 6 false := getD_set_ne _ (by decide)
      have g7 : (listed.setIfInBounds 1 true).getD 7 false = listed.getD 7 false := getD_set_ne _ (by decide)
      have g8 : (listed.setIfInBounds 1 true).getD 8 false = listed.getD 8 false := getD_set_ne _ (by decide)
      have g9 : (listed.setIfInBounds 1 true).getD 9 false = listed.getD 9 false := getD_set_ne _ (by decide)
      have g10 : (listed.setIfInBounds 1 true).getD 10 false = listed.getD 10 false := getD_set_ne _ (by decide)
      have g12 : (listed.setIfInBounds 1 true).getD 12 false = listed.getD 12 false := getD_set_ne _ (by decide)
      have HVB := Lib.hid hvb
      clear hi hdep hvb
      refine vf_wpOpP_of rfl rfl ?_
      go_simp
      exact hK _ _ ⟨_, _, (.pointer (some ⟨sb, 0, none⟩)), _, _, _, _, _, _, _, _, _, rfl, by simpa using hsz, fun h => by first | exact f0 (vf_listed_ne (by decide) h) | rfl, fun _ => rfl, fun h => by first | exact f4 (vf_listed_ne (by decide) h) | rfl, fun h => by have q := o3 (vf_listed_ne (by decide) h); exact ⟨vf_listed_keep q.1, vf_listed_keep q.2⟩, fun h => by have q := o6 (vf_listed_ne (by decide) h); exact ⟨vf_listed_keep q.1, vf_listed_keep q.2⟩, fun h => by have q := o7 (vf_listed_ne (by decide) h); exact ⟨vf_listed_keep q.1, vf_listed_keep q.2⟩, fun h => by have q := o8 (vf_listed_ne (by decide) h); exact ⟨vf_listed_keep q.1, vf_listed_keep q.2⟩, fun h => vf_listed_keep (o9 (vf_listed_ne (by decide) h)), fun h => vf_listed_keep (o10 (vf_listed_ne (by decide) h)), fun h => vf_listed_keep (o11 (vf_listed_ne (by decide) h)), fun h => vf_listed_keep (o12 (vf_listed_ne (by decide) h)), by rw [g2, g3, g5, g6, g7, g8, g9, g10, g12]; exact HVB.out⟩
    · injection ho with ho
      subst ho
      have g2 : (listed.setIfInBounds 2 true).getD 2 false = true := hself
      have g3 : (listed.setIfInBounds 2 true).getD 3 false = listed.getD 3 false := getD_set_ne _ (by decide)
      have g5 : (listed.setIfInBounds 2 true).getD 5 false = listed.getD 5 false := getD_set_ne _ (by decide)
      have g6 : (listed.setIfInBounds 2 true).getD 6 false = listed.getD 6 false := getD_set_ne _ (by decide)
      have g7 : (listed.setIfInBounds 2 true).getD 7 false = listed.getD 7 false := getD_set_ne _ (by decide)
      have g8 : (listed.setIfInBounds 2 true).getD 8 false = listed.getD 8 false := getD_set_ne _ (by decide)
      have g9 : (listed.setIfInBounds 2 true).getD 9 false = listed.getD 9 false := getD_set_ne _ (by decide)
      have g10 : (listed.setIfInBounds 2 true).getD 10 false = listed.getD 10 false := getD_set_ne _ (by decide)
      have g12 : (listed.setIfInBounds 2 true).getD 12 false = listed.getD 12 false := getD_set_ne _ (by decide)
      have n3 : listed.getD 3 false = false := by
        cases h : listed.getD 3 false with
        | false => rfl
        | true => have q := (o3 h).2; rw [hno] at q; cases q
      have n8 : listed.getD 8 false = false := by
        cases h : listed.getD 8 false with
        | false => rfl
        | true => have q := (o3 (o7 (o8 h).2).1).2; rw [hno] at q; cases q
      rw [n3, n8, hno] at hvb
      have HVB := Lib.hid hvb
      clear hi hdep hvb
      refine vf_wpOpP_of rfl rfl ?_
      go_simp
      exact hK _ _ ⟨_, _, _, _, _, _, _, _, _, _, _, _, rfl, by simpa using hsz, fun h => by first | exact f0 (vf_listed_ne (by decide) h) | rfl, fun h => by first | exact f1 (vf_listed_ne (by decide) h) | rfl, fun h => by first | exact f4 (vf_listed_ne (by decide) h) | rfl, fun h => by have q := o3 (vf_listed_ne (by decide) h); exact ⟨vf_listed_keep q.1, vf_listed_keep q.2⟩, fun h => by have q := o6 (vf_listed_ne (by decide) h); exact ⟨vf_listed_keep q.1, vf_listed_keep q.2⟩, fun h => by have q := o7 (vf_listed_ne (by decide) h); exact ⟨vf_listed_keep q.1, vf_listed_keep q.2⟩, fun h => by have q := o8 (vf_listed_ne (by decide) h); exact ⟨vf_listed_keep q.1, vf_listed_keep q.2⟩, fun h => vf_listed_keep (o9 (vf_listed_ne (by decide) h)), fun h => vf_listed_keep (o10 (vf_listed_ne (by decide) h)), fun h => vf_listed_keep (o11 (vf_listed_ne (by decide) h)), fun h => vf_listed_keep (o12 (vf_listed_ne (by decide) h)), by rw [g2, g3, g5, g6, g7, g8, g9, g10, g12, n3, n8]; exact HVB.out.sliced1 hsW0⟩
    · injection ho with ho
      subst ho
      have d1 := hdep ⟨1, .data⟩ (by simp) rfl
      have d2 := hdep ⟨2, .data⟩ (by simp) rfl
      have g2 : (listed.setIfInBounds 3 true).getD 2 false = listed.getD 2 false := getD_set_ne _ (by decide)
      have g3 : (listed.setIfInBounds 3 true).getD 3 false = true := hself
      have g5 : (listed.setIfInBounds 3 true).getD 5 false = listed.getD 5 false := getD_set_ne _ (by decide)
      have g6 : (listed.setIfInBounds 3 true).getD 6 false = listed.getD 6 false := getD_set_ne _ (by decide)
      have g7 : (listed.setIfInBounds 3 true).getD 7 false = listed.getD 7 false := getD_set_ne _ (by decide)
      have g8 : (listed.setIfInBounds 3 true).getD 8 false = listed.getD 8 false := getD_set_ne _ (by decide)
      have g9 : (listed.setIfInBounds 3 true).getD 9 false = listed.getD 9 false := getD_set_ne _ (by decide)
      have g10 : (listed.setIfInBounds 3 true).getD 10 false = listed.getD 10 false := getD_set_ne _ (by decide)
      have g12 : (listed.setIfInBounds 3 true).getD 12 false = listed.getD 12 false := getD_set_ne _ (by decide)
      obtain rfl := f1 d1
      have n7 : listed.getD 7 false = false := by
        cases h : listed.getD 7 false with
        | false => rfl
        | true => have q := (o7 h).1; rw [hno] at q; cases q
      have n8 : listed.getD 8 false = false := by
        cases h : listed.getD 8 false with
        | false => rfl
        | true => have q := (o7 (o8 h).2).1; rw [hno] at q; cases q
      rw [n7, n8, d2, hno] at hvb
      obtain ⟨-, g, rfl, hgs, hgc⟩ := hvb.q10 rfl rfl
      have HSx := Lib.hid (hvb.pre rfl).2.1
      have hpk := pkA_cells hgc
      have HPK := Lib.hid hpk
      clear hgc hpk
      have HVB := Lib.hid hvb
      clear hi hdep hvb
      refine vf_wpOpP_of rfl rfl ?_
      go_simp
      refine (pick_any sb g pkA 4 4 _ HSx.out hgs (by decide) (by decide) rfl HPK.out).mono ?_
      rintro e w9 ⟨u, hu, rfl, hS9, hG9⟩
      exact hK _ _ ⟨_, _, _, _, (.int .i64 u), _, _, _, _, _, _, _, rfl, by simpa using hsz, fun h => by first | exact f0 (vf_listed_ne (by decide) h) | rfl, fun h => by first | exact f1 (vf_listed_ne (by decide) h) | rfl, fun h => by first | exact f4 (vf_listed_ne (by decide) h) | rfl, fun _ => ⟨vf_listed_keep d1, vf_listed_keep d2⟩, fun h => by have q := o6 (vf_listed_ne (by decide) h); exact ⟨vf_listed_keep q.1, vf_listed_keep q.2⟩, fun h => by have q := o7 (vf_listed_ne (by decide) h); exact ⟨vf_listed_keep q.1, vf_listed_keep q.2⟩, fun h => by have q := o8 (vf_listed_ne (by decide) h); exact ⟨vf_listed_keep q.1, vf_listed_keep q.2⟩, fun h => vf_listed_keep (o9 (vf_listed_ne (by decide) h)), fun h => vf_listed_keep (o10 (vf_listed_ne (by decide) h)), fun h => vf_listed_keep (o11 (vf_listed_ne (by decide) h)), fun h => vf_listed_keep (o12 (vf_listed_ne (by decide) h)), by rw [g2, g3, g5, g6, g7, g8, g9, g10, g12, n7, n8, d2]; exact HVB.out.picked1 hu hS9 hG9⟩
    · injection ho with ho
      subst ho
      have g2 : (listed.setIfInBounds 4 true).getD 2 false = listed.getD 2 false := getD_set_ne _ (by decide)
      have g3 : (listed.setIfInBounds 4 true).getD 3 false = listed.getD 3 false := getD_set_ne _ (by decide)
      have g5 : (listed.setIfInBounds 4 true).getD 5 false = listed.getD 5 false := getD_set_ne _ (by decide)
      have g6 : (listed.setIfInBounds 4 true).getD 6 false = listed.getD 6 false := getD_set_ne _ (by decide)
      have g7 : (listed.setIfInBounds 4 true).getD 7 false = listed.getD 7 false := getD_set_ne _ (by decide)
      have g8 : (listed.setIfInBounds 4 true).getD 8 false = listed.getD 8 false := getD_set_ne _ (by decide)
      have g9 : (listed.setIfInBounds 4 true).getD 9 false = listed.getD 9 false := getD_set_ne _ (by decide)
      have g10 : (listed.setIfInBounds 4 true).getD 10 false = listed.getD 10 false := getD_set_ne _ (by decide)
      have g12 : (listed.setIfInBounds 4 true).getD 12 false = listed.getD 12 false := getD_set_ne _ (by decide)
      have HVB := Lib.hid hvb
      clear hi hdep hvb
      refine vf_wpOpP_of rfl rfl ?_
      go_simp
      exact hK _ _ ⟨_, _, _, _, _, (.pointer (some ⟨sb, 0, none⟩)), _, _, _, _, _, _, rfl, by simpa using hsz, fun h => by first | exact f0 (vf_listed_ne (by decide) h) | rfl, fun h => by first | exact f1 (vf_listed_ne (by decide) h) | rfl, fun _ => rfl, fun h => by have q := o3 (vf_listed_ne (by decide) h); exact ⟨vf_listed_keep q.1, vf_listed_keep q.2⟩, fun h => by have q := o6 (vf_listed_ne (by decide) h); exact ⟨vf_listed_keep q.1, vf_listed_keep q.2⟩, fun h => by have q := o7 (vf_listed_ne (by decide) h); exact ⟨vf_listed_keep q.1, vf_listed_keep q.2⟩, fun h => by have q := o8 (vf_listed_ne (by decide) h); exact ⟨vf_listed_keep q.1, vf_listed_keep q.2⟩, fun h => vf_listed_keep (o9 (vf_listed_ne (by decide) h)), fun h => vf_listed_keep (o10 (vf_listed_ne (by decide) h)), fun h => vf_listed_keep (o11 (vf_listed_ne (by decide) h)), fun h => vf_listed_keep (o12 (vf_listed_ne (by decide) h)), by rw [g2, g3, g5, g6, g7, g8, g9, g10, g12]; exact HVB.out⟩
    · injection ho with ho
      subst ho
      have g2 : (listed.setIfInBounds 5 true).getD 2 false = listed.getD 2 false := getD_set_ne _ (by decide)
      have g3 : (listed.setIfInBounds 5 true).getD 3 false = listed.getD 3 false := getD_set_ne _ (by decide)
      have g5 : (listed.setIfInBounds 5 true).getD 5 false = true := hself
      have g6 : (listed.setIfInBounds 5 true).getD 6 false = listed.getD 6 false := getD_set_ne _ (by decide)
      have g7 : (listed.setIfInBounds 5 true).getD 7 false = listed.getD 7 false := getD_set_ne _ (by decide)
      have g8 : (listed.setIfInBounds 5 true).getD 8 false = listed.getD 8 false := getD_set_ne _ (by decide)
      have g9 : (listed.setIfInBounds 5 true).getD 9 false = listed.getD 9 false := getD_set_ne _ (by decide)
      have g10 : (listed.setIfInBounds 5 true).getD 10 false = listed.getD 10 false := getD_set_ne _ (by decide)
      have g12 : (listed.setIfInBounds 5 true).getD 12 false = listed.getD 12 false := getD_set_ne _ (by decide)
      have n6 : listed.getD 6 false = false := by
        cases h : listed.getD 6 false with
        | false => rfl
        | true => have q := (o6 h).2; rw [hno] at q; cases q
      have n8 : listed.getD 8 false = false := by
        cases h : listed.getD 8 false with
        | false => rfl
        | true => have q := (o6 (o7 (o8 h).2).2).2; rw [hno] at q; cases q
      rw [n6, n8, hno] at hvb
      have HVB := Lib.hid hvb
      clear hi hdep hvb
      refine vf_wpOpP_of rfl rfl ?_
      go_simp
      exact hK _ _ ⟨_, _, _, _, _, _, _, _, _, _, _, _, rfl, by simpa using hsz, fun h => by first | exact f0 (vf_listed_ne (by decide) h) | rfl, fun h => by first | exact f1 (vf_listed_ne (by decide) h) | rfl, fun h => by first | exact f4 (vf_listed_ne (by decide) h) | rfl, fun h => by have q := o3 (vf_listed_ne (by decide) h); exact ⟨vf_listed_keep q.1, vf_listed_keep q.2⟩, fun h => by have q := o6 (vf_listed_ne (by decide) h); exact ⟨vf_listed_keep q.1, vf_listed_keep q.2⟩, fun h => by have q := o7 (vf_listed_ne (by decide) h); exact ⟨vf_listed_keep q.1, vf_listed_keep q.2⟩, fun h => by have q := o8 (vf_listed_ne (by decide) h); exact ⟨vf_listed_keep q.1, vf_listed_keep q.2⟩, fun h => vf_listed_keep (o9 (vf_listed_ne (by decide) h)), fun h => vf_listed_keep (o10 (vf_listed_ne (by decide) h)), fun h => vf_listed_keep (o11 (vf_listed_ne (by decide) h)), fun h => vf_listed_keep (o12 (vf_listed_ne (by decide) h)), by rw [g2, g3, g5, g6, g7, g8, g9, g10, g12, n6, n8]; exact HVB.out.sliced2 hsW0⟩
    · injection ho with ho
      subst ho
      have d4 := hdep ⟨4, .data⟩ (by simp) rfl
      have d5 := hdep ⟨5, .data⟩ (by simp) rfl
      have g2 : (listed.setIfInBounds 6 true).getD 2 false = listed.getD 2 false := getD_set_ne _ (by decide)
      have g3 : (listed.setIfInBounds 6 true).getD 3 false = listed.getD 3 false := getD_set_ne _ (by decide)
      have g5 : (listed.setIfInBounds 6 true).getD 5 false = listed.getD 5 false := getD_set_ne _ (by decide)
      have g6 : (listed.setIfInBounds 6 true).getD 6 false = true := hself
      have g7 : (listed.setIfInBounds 6 true).getD 7 false = listed.getD 7 false := getD_set_ne _ (by decide)
      have g8 : (listed.setIfInBounds 6 true).getD 8 false = listed.getD 8 false := getD_set_ne _ (by decide)
      have g9 : (listed.setIfInBounds 6 true).getD 9 false = listed.getD 9 false := getD_set_ne _ (by decide)
      have g10 : (listed.setIfInBounds 6 true).getD 10 false = listed.getD 10 false := getD_set_ne _ (by decide)
      have g12 : (listed.setIfInBounds 6 true).getD 12 false = listed.getD 12 false := getD_set_ne _ (by decide)
      obtain rfl := f4 d4
      have n7 : listed.getD 7 false = false := by
        cases h : listed.getD 7 false with
        | false => rfl
        | true => have q := (o7 h).2; rw [hno] at q; cases q
      have n8 : listed.getD 8 false = false := by
        cases h : listed.getD 8 false with
        | false => rfl
        | true => have q := (o7 (o8 h).2).2; rw [hno] at q; cases q
      rw [n7, n8, d5, hno] at hvb
      obtain ⟨-, g, rfl, hgs, hgc⟩ := hvb.q13 rfl rfl
      have HSx := Lib.hid (hvb.pre rfl).2.1
      have hpk := pkB_cells hgc
      have HPK := Lib.hid hpk
      clear hgc hpk
      have HVB := Lib.hid hvb
      clear hi hdep hvb
      refine vf_wpOpP_of rfl rfl ?_
      go_simp
      refine (pick_any sb g pkB 2 2 _ HSx.out hgs (by decide) (by decide) rfl HPK.out).mono ?_
      rintro e w9 ⟨u, hu, rfl, hS9, hG9⟩
      exact hK _ _ ⟨_, _, _, _, _, _, _, (.int .i64 u), _, _, _, _, rfl, by simpa using hsz, fun h => by first | exact f0 (vf_listed_ne (by decide) h) | rfl, fun h => by first | exact f1 (vf_listed_ne (by decide) h) | rfl, fun h => by first | exact f4 (vf_listed_ne (by decide) h) | rfl, fun h => by have q := o3 (vf_listed_ne (by decide) h); exact ⟨vf_listed_keep q.1, vf_listed_keep q.2⟩, fun _ => ⟨vf_listed_keep d4, vf_listed_keep d5⟩, fun h => by have q := o7 (vf_listed_ne (by decide) h); exact ⟨vf_listed_keep q.1, vf_listed_keep q.2⟩, fun h => by have q := o8 (vf_listed_ne (by decide) h); exact ⟨vf_listed_keep q.1, vf_listed_keep q.2⟩, fun h => vf_listed_keep (o9 (vf_listed_ne (by decide) h)), fun h => vf_listed_keep (o10 (vf_listed_ne (by decide) h)), fun h => vf_listed_keep (o11 (vf_listed_ne (by decide) h)), fun h => vf_listed_keep (o12 (vf_listed_ne (by decide) h)), by rw [g2, g3, g5, g6, g7, g8, g9, g10, g12, n7, n8, d5]; exact HVB.out.picked2 hu hS9 hG9⟩
    · injection ho with ho
      subst ho
      have d3 := hdep ⟨3, .data⟩ (by simp) rfl
      have d6 := hdep ⟨6, .data⟩ (by simp) rfl
      have g2 : (listed.setIfInBounds 7 true).getD 2 false = listed.getD 2 false := getD_set_ne _ (by decide)
      have g3 : (listed.setIfInBounds 7 true).getD 3 false = listed.getD 3 false := getD_set_ne _ (by decide)
      have g5 : (listed.setIfInBounds 7 true).getD 5 false = listed.getD 5 false := getD_set_ne _ (by decide)
      have g6 : (listed.setIfInBounds 7 true).getD 6 false = listed.getD 6 false := getD_set_ne _ (by decide)
      have g7 : (listed.setIfInBounds 7 true).getD 7 false = true := hself
      have g8 : (listed.setIfInBounds 7 true).getD 8 false = listed.getD 8 false := getD_set_ne _ (by decide)
      have g9 : (listed.setIfInBounds 7 true).getD 9 false = listed.getD 9 false := getD_set_ne _ (by decide)
      have g10 : (listed.setIfInBounds 7 true).getD 10 false = listed.getD 10 false := getD_set_ne _ (by decide)
      have g12 : (listed.setIfInBounds 7 true).getD 12 false = listed.getD 12 false := getD_set_ne _ (by decide)
      have n8 : listed.getD 8 false = false := by
        cases h : listed.getD 8 false with
        | false => rfl
        | true => have q := (o8 h).2; rw [hno] at q; cases q
      rw [n8, d3, d6, hno] at hvb
      obtain ⟨-, u11, rfl, hu11⟩ := hvb.q11 rfl
      obtain ⟨-, u14, rfl, hu14⟩ := hvb.q14 rfl
      have HVB := Lib.hid hvb
      clear hi hdep hvb
      refine vf_wpOpP_of rfl rfl ?_
      go_simp
      exact hK _ _ ⟨_, _, _, _, _, _, _, _, _, _, _, _, rfl, by simpa using hsz, fun h => by first | exact f0 (vf_listed_ne (by decide) h) | rfl, fun h => by first | exact f1 (vf_listed_ne (by decide) h) | rfl, fun h => by first | exact f4 (vf_listed_ne (by decide) h) | rfl, fun h => by have q := o3 (vf_listed_ne (by decide) h); exact ⟨vf_listed_keep q.1, vf_listed_keep q.2⟩, fun h => by have q := o6 (vf_listed_ne (by decide) h); exact ⟨vf_listed_keep q.1, vf_listed_keep q.2⟩, fun _ => ⟨vf_listed_keep d3, vf_listed_keep d6⟩, fun h => by have q := o8 (vf_listed_ne (by decide) h); exact ⟨vf_listed_keep q.1, vf_listed_keep q.2⟩, fun h => vf_listed_keep (o9 (vf_listed_ne (by decide) h)), fun h => vf_listed_keep (o10 (vf_listed_ne (by decide) h)), fun h => vf_listed_keep (o11 (vf_listed_ne (by decide) h)), fun h => vf_listed_keep (o12 (vf_listed_ne (by decide) h)), by rw [g2, g3, g5, g6, g7, g8, g9, g10, g12, n8, d3, d6]; exact HVB.out.built⟩
    · injection ho with ho
      subst ho
      have d0 := hdep ⟨0, .data⟩ (by simp) rfl
      have d7 := hdep ⟨7, .data⟩ (by simp) rfl
      have g2 : (listed.setIfInBounds 8 true).getD 2 false = listed.getD 2 false := getD_set_ne _ (by decide)
      have g3 : (listed.setIfInBounds 8 true).getD 3 false = listed.getD 3 false := getD_set_ne _ (by decide)
      have g5 : (listed.setIfInBounds 8 true).getD 5 false = listed.getD 5 false := getD_set_ne _ (by decide)
      have g6 : (listed.setIfInBounds 8 true).getD 6 false = listed.getD 6 false := getD_set_ne _ (by decide)
      have g7 : (listed.setIfInBounds 8 true).getD 7 false = listed.getD 7 false := getD_set_ne _ (by decide)
      have g8 : (listed.setIfInBounds 8 true).getD 8 false = true := hself
      have g9 : (listed.setIfInBounds 8 true).getD 9 false = listed.getD 9 false := getD_set_ne _ (by decide)
      have g10 : (listed.setIfInBounds 8 true).getD 10 false = listed.getD 10 false := getD_set_ne _ (by decide)
      have g12 : (listed.setIfInBounds 8 true).getD 12 false = listed.getD 12 false := getD_set_ne _ (by decide)
      obtain rfl := f0 d0
      have n9 : listed.getD 9 false = false := by
        cases h : listed.getD 9 false with
        | false => rfl
        | true => have q := (o9 h); rw [hno] at q; cases q
      rw [n9, d7, hno] at hvb
      obtain ⟨u, r, hur, rfl, hSx, hGx⟩ := hvb.shape
      have hsx := srcOk_lt hSx
      have HZ := HZ0.out
      have hKx := fadd_any (fun b => w.heap.size + 1 < b) _ _ _ ⟨[], [], []⟩ 1 u 0 1800 r 6 false w' (rgIn_nil _ _) (by simp) (by simp) (by simp) (fun b hb => by have := hGx.size; omega) (.inl rfl)
      rw [show raE ⟨[], [], []⟩ ⟨1, u, 0, 1800, r, 6, false⟩ = 0 from (eAdd hur).1, show raR ⟨[], [], []⟩ ⟨1, u, 0, 1800, r, 6, false⟩ = eR u r [] from (eAdd hur).2.1] at hKx
      have HKX := Lib.hid hKx
      clear hKx hSx hGx
      have HVB := Lib.hid hvb
      clear hi hdep hvb
      refine vf_wpOpP_of rfl rfl ?_
      go_simp
      refine HKX.out.mono ?_
      rintro e w9 hgv
      obtain ⟨x0, y0, z0, x1, y1, z1, x2, y2, z2, rfl, hq9, hb9⟩ := hgv.shape
      exact hK _ _ ⟨_, _, _, _, _, _, _, _, _, _, _, _, rfl, by simpa using hsz, fun h => by first | exact f0 (vf_listed_ne (by decide) h) | rfl, fun h => by first | exact f1 (vf_listed_ne (by decide) h) | rfl, fun h => by first | exact f4 (vf_listed_ne (by decide) h) | rfl, fun h => by have q := o3 (vf_listed_ne (by decide) h); exact ⟨vf_listed_keep q.1, vf_listed_keep q.2⟩, fun h => by have q := o6 (vf_listed_ne (by decide) h); exact ⟨vf_listed_keep q.1, vf_listed_keep q.2⟩, fun h => by have q := o7 (vf_listed_ne (by decide) h); exact ⟨vf_listed_keep q.1, vf_listed_keep q.2⟩, fun _ => ⟨vf_listed_keep d0, vf_listed_keep d7⟩, fun h => vf_listed_keep (o9 (vf_listed_ne (by decide) h)), fun h => vf_listed_keep (o10 (vf_listed_ne (by decide) h)), fun h => vf_listed_keep (o11 (vf_listed_ne (by decide) h)), fun h => vf_listed_keep (o12 (vf_listed_ne (by decide) h)), by rw [g2, g3, g5, g6, g7, g8, g9, g10, g12, n9, d7]; exact HVB.out.added hur hsx hb9 hq9⟩
    · injection ho with ho
      subst ho
      have d8 := hdep ⟨8, .data⟩ (by simp) rfl
      have g2 : (listed.setIfInBounds 9 true).getD 2 false = listed.getD 2 false := getD_set_ne _ (by decide)
      have g3 : (listed.setIfInBounds 9 true).getD 3 false = listed.getD 3 false := getD_set_ne _ (by decide)
      have g5 : (listed.setIfInBounds 9 true).getD 5 false = listed.getD 5 false := getD_set_ne _ (by decide)
      have g6 : (listed.setIfInBounds 9 true).getD 6 false = listed.getD 6 false := getD_set_ne _ (by decide)
      have g7 : (listed.setIfInBounds 9 true).getD 7 false = listed.getD 7 false := getD_set_ne _ (by decide)
      have g8 : (listed.setIfInBounds 9 true).getD 8 false = listed.getD 8 false := getD_set_ne _ (by decide)
      have g9 : (listed.setIfInBounds 9 true).getD 9 false = true := hself
      have g10 : (listed.setIfInBounds 9 true).getD 10 false = listed.getD 10 false := getD_set_ne _ (by decide)
      have g12 : (listed.setIfInBounds 9 true).getD 12 false = listed.getD 12 false := getD_set_ne _ (by decide)
      have n10 : listed.getD 10 false = false := by
        cases h : listed.getD 10 false with
        | false => rfl
        | true => have q := (o10 h); rw [hno] at q; cases q
      rw [n10, d8, hno] at hvb
      have HVB := Lib.hid hvb
      clear hi hdep hvb
      refine vf_wpOpP_of rfl rfl ?_
      go_simp
      exact hK _ _ ⟨_, _, _, _, _, _, _, _, _, _, _, _, rfl, by simpa using hsz, fun h => by first | exact f0 (vf_listed_ne (by decide) h) | rfl, fun h => by first | exact f1 (vf_listed_ne (by decide) h) | rfl, fun h => by first | exact f4 (vf_listed_ne (by decide) h) | rfl, fun h => by have q := o3 (vf_listed_ne (by decide) h); exact ⟨vf_listed_keep q.1, vf_listed_keep q.2⟩, fun h => by have q := o6 (vf_listed_ne (by decide) h); exact ⟨vf_listed_keep q.1, vf_listed_keep q.2⟩, fun h => by have q := o7 (vf_listed_ne (by decide) h); exact ⟨vf_listed_keep q.1, vf_listed_keep q.2⟩, fun h => by have q := o8 (vf_listed_ne (by decide) h); exact ⟨vf_listed_keep q.1, vf_listed_keep q.2⟩, fun _ => vf_listed_keep d8, fun h => vf_listed_keep (o10 (vf_listed_ne (by decide) h)), fun h => vf_listed_keep (o11 (vf_listed_ne (by decide) h)), fun h => vf_listed_keep (o12 (vf_listed_ne (by decide) h)), by rw [g2, g3, g5, g6, g7, g8, g9, g10, g12, n10, d8]; exact HVB.out.moved⟩
    · injection ho with ho
      subst ho
      have d9 := hdep ⟨9, .data⟩ (by simp) rfl
      have g2 : (listed.setIfInBounds 10 true).getD 2 false = listed.getD 2 false := getD_set_ne _ (by decide)
      have g3 : (listed.setIfInBounds 10 true).getD 3 false = listed.getD 3 false := getD_set_ne _ (by decide)
      have g5 : (listed.setIfInBounds 10 true).getD 5 false = listed.getD 5 false := getD_set_ne _ (by decide)
      have g6 : (listed.setIfInBounds 10 true).getD 6 false = listed.getD 6 false := getD_set_ne _ (by decide)
      have g7 : (listed.setIfInBounds 10 true).getD 7 false = listed.getD 7 false := getD_set_ne _ (by decide)
      have g8 : (listed.setIfInBounds 10 true).getD 8 false = listed.getD 8 false := getD_set_ne _ (by decide)
      have g9 : (listed.setIfInBounds 10 true).getD 9 false = listed.getD 9 false := getD_set_ne _ (by decide)
      have g10 : (listed.setIfInBounds 10 true).getD 10 false = true := hself
      have g12 : (listed.setIfInBounds 10 true).getD 12 false = listed.getD 12 false := getD_set_ne _ (by decide)
      have n12 : listed.getD 12 false = false := by
        cases h : listed.getD 12 false with
        | false => rfl
        | true => have q := (o12 h); rw [hno] at q; cases q
      have d8 := o9 d9
      rw [n12, d9, d8, hno] at hvb
      obtain ⟨b0, b1, b2, m0, d0, m1, d1, m2, d2, rfl, rfl⟩ := hvb.seven
      have HVB := Lib.hid hvb
      clear hi hdep hvb
      refine vf_wpOpP_of rfl rfl ?_
      go_simp
      exact hK _ _ ⟨_, _, _, _, _, _, _, _, _, _, _, _, rfl, by simpa using hsz, fun h => by first | exact f0 (vf_listed_ne (by decide) h) | rfl, fun h => by first | exact f1 (vf_listed_ne (by decide) h) | rfl, fun h => by first | exact f4 (vf_listed_ne (by decide) h) | rfl, fun h => by have q := o3 (vf_listed_ne (by decide) h); exact ⟨vf_listed_keep q.1, vf_listed_keep q.2⟩, fun h => by have q := o6 (vf_listed_ne (by decide) h); exact ⟨vf_listed_keep q.1, vf_listed_keep q.2⟩, fun h => by have q := o7 (vf_listed_ne (by decide) h); exact ⟨vf_listed_keep q.1, vf_listed_keep q.2⟩, fun h => by have q := o8 (vf_listed_ne (by decide) h); exact ⟨vf_listed_keep q.1, vf_listed_keep q.2⟩, fun h => vf_listed_keep (o9 (vf_listed_ne (by decide) h)), fun _ => vf_listed_keep d9, fun h => vf_listed_keep (o11 (vf_listed_ne (by decide) h)), fun h => vf_listed_keep (o12 (vf_listed_ne (by decide) h)), by rw [g2, g3, g5, g6, g7, g8, g9, g10, g12, n12, d9, d8]; exact HVB.out.drawn⟩
    · injection ho with ho
      subst ho
      have d9 := hdep ⟨9, .data⟩ (by simp) rfl
      have g2 : (listed.setIfInBounds 11 true).getD 2 false = listed.getD 2 false := getD_set_ne _ (by decide)
      have g3 : (listed.setIfInBounds 11 true).getD 3 false = listed.getD 3 false := getD_set_ne _ (by decide)
      have g5 : (listed.setIfInBounds 11 true).getD 5 false = listed.getD 5 false := getD_set_ne _ (by decide)
      have g6 : (listed.setIfInBounds 11 true).getD 6 false = listed.getD 6 false := getD_set_ne _ (by decide)
      have g7 : (listed.setIfInBounds 11 true).getD 7 false = listed.getD 7 false := getD_set_ne _ (by decide)
      have g8 : (listed.setIfInBounds 11 true).getD 8 false = listed.getD 8 false := getD_set_ne _ (by decide)
      have g9 : (listed.setIfInBounds 11 true).getD 9 false = listed.getD 9 false := getD_set_ne _ (by decide)
      have g10 : (listed.setIfInBounds 11 true).getD 10 false = listed.getD 10 false := getD_set_ne _ (by decide)
      have g12 : (listed.setIfInBounds 11 true).getD 12 false = listed.getD 12 false := getD_set_ne _ (by decide)
      rw [d9] at hvb
      obtain ⟨b0, b1, b2, m0, d0, m1, d1, m2, d2, rfl, rfl⟩ := hvb.seven
      have HVB := Lib.hid hvb
      clear hi hdep hvb
      refine vf_wpOpP_of rfl rfl ?_
      go_simp
      exact hK _ _ ⟨_, _, _, _, _, _, _, _, _, _, _, _, rfl, by simpa using hsz, fun h => by first | exact f0 (vf_listed_ne (by decide) h) | rfl, fun h => by first | exact f1 (vf_listed_ne (by decide) h) | rfl, fun h => by first | exact f4 (vf_listed_ne (by decide) h) | rfl, fun h => by have q := o3 (vf_listed_ne (by decide) h); exact ⟨vf_listed_keep q.1, vf_listed_keep q.2⟩, fun h => by have q := o6 (vf_listed_ne (by decide) h); exact ⟨vf_listed_keep q.1, vf_listed_keep q.2⟩, fun h => by have q := o7 (vf_listed_ne (by decide) h); exact ⟨vf_listed_keep q.1, vf_listed_keep q.2⟩, fun h => by have q := o8 (vf_listed_ne (by decide) h); exact ⟨vf_listed_keep q.1, vf_listed_keep q.2⟩, fun h => vf_listed_keep (o9 (vf_listed_ne (by decide) h)), fun h => vf_listed_keep (o10 (vf_listed_ne (by decide) h)), fun _ => vf_listed_keep d9, fun h => vf_listed_keep (o12 (vf_listed_ne (by decide) h)), by rw [g2, g3, g5, g6, g7, g8, g9, g10, g12, d9]; exact HVB.out⟩
    · injection ho with ho
      subst ho
      have d10 := hdep ⟨10, .data⟩ (by simp) rfl
      have g2 : (listed.setIfInBounds 12 true).getD 2 false = listed.getD 2 false := getD_set_ne _ (by decide)
      have g3 : (listed.setIfInBounds 12 true).getD 3 false = listed.getD 3 false := getD_set_ne _ (by decide)
      have g5 : (listed.setIfInBounds 12 true).getD 5 false = listed.getD 5 false := getD_set_ne _ (by decide)
      have g6 : (listed.setIfInBounds 12 true).getD 6 false = listed.getD 6 false := getD_set_ne _ (by decide)
      have g7 : (listed.setIfInBounds 12 true).getD 7 false = listed.getD 7 false := getD_set_ne _ (by decide)
      have g8 : (listed.setIfInBounds 12 true).getD 8 false = listed.getD 8 false := getD_set_ne _ (by decide)
      have g9 : (listed.setIfInBounds 12 true).getD 9 false = listed.getD 9 false := getD_set_ne _ (by decide)
      have g10 : (listed.setIfInBounds 12 true).getD 10 false = listed.getD 10 false := getD_set_ne _ (by decide)
      have g12 : (listed.setIfInBounds 12 true).getD 12 false = true := hself
      rw [d10, hno] at hvb
      obtain ⟨b0, b1, b2, m0, d0, m1, d1, m2, d2, rfl, rfl, hGx⟩ := hvb.last
      have HZ := HZ0.out
      have hbx := (hGx.block (w.heap.size + 1) (by omega) (by simp; omega)).trans HY0.out
      have y0 : w'.cell? ⟨w.heap.size + 1, 0, none⟩ = some (.slice none 0 0) := cell_heap hbx rfl
      have y1 : w'.cell? ⟨w.heap.size + 1, 1, none⟩ = some (.slice none 0 0) := cell_heap hbx rfl
      have y2 : w'.cell? ⟨w.heap.size + 1, 2, none⟩ = some (.slice none 0 0) := cell_heap hbx rfl
      have kf0 := frozen_of_row w' _ 0 _ _ hbx
      have kf1 := frozen_of_row w' _ 1 _ _ hbx
      have kf2 := frozen_of_row w' _ 2 _ _ hbx
      have kz : w.heap.size + 1 < w'.heap.size := (Array.getElem?_eq_some_iff.1 hbx).1
      clear hbx hGx
      have HVB := Lib.hid hvb
      clear hi hdep hvb
      refine vf_wpOpP_of rfl rfl ?_
      go_simp
      exact hK _ _ ⟨_, _, _, _, _, _, _, _, _, _, _, _, rfl, by simpa using hsz, fun h => by first | exact f0 (vf_listed_ne (by decide) h) | rfl, fun h => by first | exact f1 (vf_listed_ne (by decide) h) | rfl, fun h => by first | exact f4 (vf_listed_ne (by decide) h) | rfl, fun h => by have q := o3 (vf_listed_ne (by decide) h); exact ⟨vf_listed_keep q.1, vf_listed_keep q.2⟩, fun h => by have q := o6 (vf_listed_ne (by decide) h); exact ⟨vf_listed_keep q.1, vf_listed_keep q.2⟩, fun h => by have q := o7 (vf_listed_ne (by decide) h); exact ⟨vf_listed_keep q.1, vf_listed_keep q.2⟩, fun h => by have q := o8 (vf_listed_ne (by decide) h); exact ⟨vf_listed_keep q.1, vf_listed_keep q.2⟩, fun h => vf_listed_keep (o9 (vf_listed_ne (by decide) h)), fun h => vf_listed_keep (o10 (vf_listed_ne (by decide) h)), fun h => vf_listed_keep (o11 (vf_listed_ne (by decide) h)), fun _ => vf_listed_keep d10, by rw [g2, g3, g5, g6, g7, g8, g9, g10, g12, d10]; exact HVB.out.stored⟩
  case fin =>
    rintro listed a' w' ⟨t7, t8, t9, t10, t11, t12, t13, t14, t15, t16, t17, t18, rfl, hsz, f0, f1, f4, o3, o6, o7, o8, o9, o10, o11, o12, hvb⟩ hr
    have hfull := vf_ready_full hsz hr (by kernel_rfl)
    obtain rfl := f0 (hfull 0 (by decide))
    obtain rfl := f1 (hfull 1 (by decide))
    obtain rfl := f4 (hfull 4 (by decide))
    rw [hfull 2 (by decide), hfull 3 (by decide), hfull 5 (by decide), hfull 6 (by decide), hfull 7 (by decide), hfull 8 (by decide), hfull 9 (by decide), hfull 10 (by decide), hfull 12 (by decide)] at hvb
    clear o3 o6 o7 o8 o9 o10 o11 o12 hfull hr hsz
    obtain ⟨b0, b1, b2, m0, d0, m1, d1, m2, d2, un, ra, U, hur, hq, hSU, hGU, rfl⟩ := hvb.fin
    have hwB : w.heap.size + 1 < U.heap.size := by have := HZ0.out; have := hGU.size; omega
    have hbU := (hGU.block (w.heap.size + 1) (by have := HZ0.out; omega) (by simp; omega)).trans HY0.out
    have e0 := heap_setCell_same U _ 0 _ _ (.slice b0 m0 d0) hbU
    have e1 := heap_setCell_same _ _ 1 _ _ (.slice b1 m1 d1) e0
    have e2 := heap_setCell_same _ _ 2 _ _ (.slice b2 m2 d2) e1
    have hs2 := src_fin (grownBy_trans HG0.out hGU) hSU (below_set3 U (show w.heap.size ≤ w.heap.size + 1 by omega) (.slice b0 m0 d0) (.slice b1 m1 d1) (.slice b2 m2 d2)) hlt
    have hAx := ((grownBy_set3 U (w.heap.size + 1) (.slice b0 m0 d0) (.slice b1 m1 d1) (.slice b2 m2 d2)).block w.heap.size (by omega) (by simp)).trans ((hGU.block w.heap.size (by have := HZ0.out; omega) (by simp; omega)).trans HX0.out)
    have hq3 := (hq.mono (Q := fun b => w.heap.size + 2 ≤ b) (fun b h _ => by omega)).set3 (b := w.heap.size + 1) (v0 := .slice b0 m0 d0) (v1 := .slice b1 m1 d1) (v2 := .slice b2 m2 d2) (fun b hb => by omega)
    obtain ⟨W3, hW3⟩ : ∃ W, W = ((U.setCell ⟨w.heap.size + 1, 0, none⟩ (.slice b0 m0 d0)).setCell ⟨w.heap.size + 1, 1, none⟩ (.slice b1 m1 d1)).setCell ⟨w.heap.size + 1, 2, none⟩ (.slice b2 m2 d2) := ⟨_, rfl⟩
    rw [← hW3] at e2 hs2 hAx hq3 ⊢
    have HE2 := Lib.hid e2
    have HS2 := Lib.hid hs2
    have HAX := Lib.hid hAx
    have HQ3 := Lib.hid hq3
    have HEA := Lib.hid (eAdd hur).2.2
    clear hvb hW3 e0 e1 e2 hs2 hAx hq3 hq hSU hGU hwB hbU hur
    go_wp2
    go_loopw [4] (fun hv wr => ∃ (L : List Int) (a0 a1 a2 : Option Addr) (n0 c0 n1 c1 n2 c2 : Nat), L.length ≤ 4 ∧ hv = .int .i64 ((L.length : Int) + 1) ∧ EAt un ra L ∧ wr.heap[w.heap.size]? = some (.cells #[.slice none 0 0, .slice none 0 0, .slice none 0 0] 31 (0, 0)) ∧ wr.heap[w.heap.size + 1]? = some (.cells #[.slice a0 n0 c0, .slice a1 n1 c1, .slice a2 n2 c2] 31 (0, 0)) ∧ RgIn (fun b => w.heap.size + 2 ≤ b) wr (.slice a0 n0 c0) (.slice a1 n1 c1) (.slice a2 n2 c2) (eR un ra L) ∧ SrcOk wr sb ∧ w.grownBy wr (some sb)) (fun hv _ => (5 - intOf hv).toNat)
    case atStart => exact ⟨[], b0, b1, b2, m0, d0, m1, d1, m2, d2, by simp, rfl, HEA.out, HAX.out, HE2.out, HQ3.out, HS2.out.1, HS2.out.2⟩
    case round =>
      clear HEA HAX HE2 HQ3 HS2
      obtain ⟨L, a0, a1, a2, n0, c0, n1, c1, n2, c2, hl4, rfl, hdat, hX, hY, hR, hSr, hGr⟩ := hrel
      have hzB : w.heap.size + 1 < wr.heap.size := World.block_lt_of_cell? wr ⟨w.heap.size + 1, 0, none⟩ (cell_heap (i := 0) hY rfl)
      have y0 := cell_heap (i := 0) hY rfl
      have y1 := cell_heap (i := 1) hY rfl
      have y2 := cell_heap (i := 2) hY rfl
      have HX := Lib.hid hX
      have HY := Lib.hid hY
      have HR := Lib.hid hR
      have HS := Lib.hid hSr
      have HG := Lib.hid hGr
      have HM := Lib.hid hdat
      clear hX hY hR hSr hGr hdat
      by_cases hl3 : L.length ≤ 3
      · have hll : ((L.length : Int) + 1) ≤ 4 := by omega
        have yk0 : (wr.alloc (.cells #[.slice none 0 0, .slice none 0 0, .slice none 0 0] 31 (0, 0))).cell? ⟨w.heap.size + 1, 0, none⟩ = some (.slice a0 n0 c0) := keepA (w := wr) y0
        have yk1 : (wr.alloc (.cells #[.slice none 0 0, .slice none 0 0, .slice none 0 0] 31 (0, 0))).cell? ⟨w.heap.size + 1, 1, none⟩ = some (.slice a1 n1 c1) := keepA (w := wr) y1
        have yk2 : (wr.alloc (.cells #[.slice none 0 0, .slice none 0 0, .slice none 0 0] 31 (0, 0))).cell? ⟨w.heap.size + 1, 2, none⟩ = some (.slice a2 n2 c2) := keepA (w := wr) y2
        have HK := Lib.hid (show wr.grownBy wr (some sb) from ⟨rfl, rfl, rfl, Nat.le_refl _, fun _ _ _ => rfl⟩)
        go_upto_region 6 with fail
        go_cut [5, 6] (fun s5 s6 wx => ∃ (g : Nat) (q : Int) (b0 b1 b2 : Option Addr) (m0 d0 m1 d1 m2 d2 : Nat), s5 = .pointer (some ⟨g, 0, none⟩) ∧ s6 = .int .i64 0 ∧ (1 ≤ q ∧ q ≤ 9) ∧ AddAt w sb wr g (eR un ra (L ++ [q])) b0 b1 b2 m0 d0 m1 d1 m2 d2 wx)
        case first =>
          go_region_with (first | (go_at_call 28; refine (range_any sb _ _ _ ?_ (by decide) (by decide) (by decide)).mono ?_; (· first | exact HS.out | exact srcOk_alloc HS.out _ | exact srcOk_drewN HS.out 1 | exact srcOk_drewN (srcOk_alloc HS.out _) 1); rintro e wn ⟨v, hv, rfl, hS', hG'⟩; have hwv : IntKind.i64.wrap (1000 * v) = 1000 * v := IntWalk.i64_in _ (by omega); have hK' : wr.grownBy wn (some sb) := (by first | exact grownBy_trans HK.out hG' | exact grownBy_trans HK.out (grownBy_undrew hG') | exact grownBy_trans HK.out (grownBy_trans (World.grownBy_alloc _ _ _) hG') | exact grownBy_trans HK.out (grownBy_trans (World.grownBy_alloc _ _ _) (grownBy_undrew hG'))); (first | (have hbq := box_grownM (grownBy_undrew hG') (srcOk_lt HS.out); have hgg : wr.heap.size ≤ _ := HK.out.size; have hbl := hbq.2; have HBX := Lib.hid hbq.1; clear hbq) | (have hbq := box_grownM hG' (srcOk_lt HS.out); have hgg : wr.heap.size ≤ _ := HK.out.size; have hbl := hbq.2; have HBX := Lib.hid hbq.1; clear hbq) | skip); have HS := Lib.hid hS'; have HK := Lib.hid hK'; have HNX := Lib.hid (eAt_next HM.out hl3 hv); have hy2 := (hK'.block _ hzB (by simp; omega)).trans HY.out; have c0' := cell_heap (i := 0) hy2 rfl; have c1' := cell_heap (i := 1) hy2 rfl; have c2' := cell_heap (i := 2) hy2 rfl; have ck0 : (wn.alloc (.cells #[.slice none 0 0, .slice none 0 0, .slice none 0 0] 31 (0, 0))).cell? ⟨w.heap.size + 1, 0, none⟩ = some (.slice a0 n0 c0) := keepA (w := wn) c0'; have ck1 : (wn.alloc (.cells #[.slice none 0 0, .slice none 0 0, .slice none 0 0] 31 (0, 0))).cell? ⟨w.heap.size + 1, 1, none⟩ = some (.slice a1 n1 c1) := keepA (w := wn) c1'; have ck2 : (wn.alloc (.cells #[.slice none 0 0, .slice none 0 0, .slice none 0 0] 31 (0, 0))).cell? ⟨w.heap.size + 1, 2, none⟩ = some (.slice a2 n2 c2) := keepA (w := wn) c2'; clear hS' hG' hK' hy2) | (go_at_call 158; have hIs := fun (Wc : World) (hWc : wr.grownBy Wc (some sb)) => iss38 (w := w) (w1 := wr) (t := (L.length : Int) + 1) (a := 1000 * v) HR.out hWc hlt HM.out.ok; rw [show rmE (eR un ra L) ⟨0, 0, 1, 1, 0, (L.length : Int) + 1, 1000 * v⟩ = 0 from HNX.out.1, show rmR (eR un ra L) ⟨0, 0, 1, 1, 0, (L.length : Int) + 1, 1000 * v⟩ = eR un ra (L ++ [v]) from HNX.out.2.1] at hIs; refine (hIs _ (by first | exact HK.out | exact grownBy_trans HK.out (World.grownBy_alloc _ _ _))).mono ?_; rintro e w3 hg; obtain ⟨b0, m0, d0, b1, m1, d1, b2, m2, d2, rfl, hq3, hb3⟩ := hg.shape; have HQ3 := Lib.hid hq3; have HB3 := Lib.hid hb3; (try (have hbx3 := (hb3.block _ hbl).trans HBX.out; have bx0 := cell_heap (i := 0) hbx3 rfl; have bx1 := cell_heap (i := 1) hbx3 rfl; have bx2 := cell_heap (i := 2) hbx3 rfl; have bf0 := frozen_of_row w3 _ 0 _ _ hbx3; have bf1 := frozen_of_row w3 _ 1 _ _ hbx3; have bf2 := frozen_of_row w3 _ 2 _ _ hbx3; clear hbx3)); (try (have hbx3 := box_below hb3; have bx0 := cell_heap (i := 0) hbx3 rfl; have bx1 := cell_heap (i := 1) hbx3 rfl; have bx2 := cell_heap (i := 2) hbx3 rfl; have bf0 := frozen_of_row w3 _ 0 _ _ hbx3; have bf1 := frozen_of_row w3 _ 1 _ _ hbx3; have bf2 := frozen_of_row w3 _ 2 _ _ hbx3; clear hbx3)); clear hg hq3 hb3 hIs))
          all_goals (go_wp2_with fail; go_meet)
          all_goals (refine ⟨_, v, b0, b1, b2, m0, d0, m1, d1, m2, d2, rfl, rfl, hv, ?_⟩; first | exact added_new hlt (by omega) HK.out HS.out HB3.out HQ3.out | exact added_set hlt (by omega) HK.out HS.out HB3.out HQ3.out (by omega) hbl HBX.out | exact added_set hlt (by omega) (grownBy_trans HK.out (World.grownBy_alloc _ _ _)) (srcOk_alloc HS.out _) HB3.out HQ3.out HK.out.size (by simp) (heap_alloc_new _ _))
        case rest =>
          obtain ⟨g, q, b0, b1, b2, m0, d0, m1, d1, m2, d2, rfl, rfl, hq, hA⟩ := hcut
          have HA := Lib.hid hA
          have HNX := Lib.hid (eAt_next HM.out hl3 hq)
          have gx0 := hA.g0
          have gx1 := hA.g1
          have gx2 := hA.g2
          have hXx := (hA.old w.heap.size (by omega) (by omega)).trans HX.out
          have hYx := (hA.old (w.heap.size + 1) (by omega) (by omega)).trans HY.out
          have HXX := Lib.hid hXx
          have HYX := Lib.hid hYx
          clear y0 y1 y2 yk0 yk1 yk2
          have y0 := cell_heap (i := 0) hYx rfl
          have y1 := cell_heap (i := 1) hYx rfl
          have y2 := cell_heap (i := 2) hYx rfl
          have yf0 := frozen_of_row wc _ 0 _ _ hYx
          have yf1 := frozen_of_row wc _ 1 _ _ hYx
          have yf2 := frozen_of_row wc _ 2 _ _ hYx
          clear hA hXx hYx
          have hwl : IntKind.i64.wrap ((L.length : Int) + 1 + 1) = (L.length : Int) + 1 + 1 := IntWalk.i64_in _ (by omega)
          go_wp2
          go_roundw
          case rel =>
            have e0 := heap_setCell_same wc _ 0 _ _ (.slice b0 m0 d0) HYX.out
            have e1 := heap_setCell_same _ _ 1 _ _ (.slice b1 m1 d1) e0
            have e2 := heap_setCell_same _ _ 2 _ _ (.slice b2 m2 d2) e1
            have hs2 := src_fin (grownBy_trans HG.out HA.out.gr) HA.out.src (below_set3 wc (show w.heap.size ≤ w.heap.size + 1 by omega) (.slice b0 m0 d0) (.slice b1 m1 d1) (.slice b2 m2 d2)) hlt
            exact ⟨L ++ [q], b0, b1, b2, m0, d0, m1, d1, m2, d2, by simp; omega, by simp, HNX.out.2.2, ((grownBy_set3 wc (w.heap.size + 1) (.slice b0 m0 d0) (.slice b1 m1 d1) (.slice b2 m2 d2)).block _ (World.block_lt_of_cell? wc ⟨w.heap.size, 0, none⟩ (cell_heap (i := 0) HXX.out rfl)) (by simp)).trans HXX.out, e2, HA.out.rg.set3 (b := w.heap.size + 1) (fun b hb => by omega), hs2.1, hs2.2⟩
          case measure => simp [intOf]; omega
      · have hl : L.length = 4 := by omega
        have hgt : ¬ ((L.length : Int) + 1) ≤ 4 := by omega
        have x0 := cell_heap (i := 0) HX.out rfl
        have x1 := cell_heap (i := 1) HX.out rfl
        have x2 := cell_heap (i := 2) HX.out rfl
        have xf0 := frozen_of_row wr _ 0 _ _ HX.out
        have xf1 := frozen_of_row wr _ 1 _ _ HX.out
        have xf2 := frozen_of_row wr _ 2 _ _ HX.out
        have hs2 := src_fin HG.out HS.out (below_set3 wr (Nat.le_refl w.heap.size) (.slice a0 n0 c0) (.slice a1 n1 c1) (.slice a2 n2 c2)) hlt
        have HS2 := Lib.hid hs2
        have HL := Lib.hid hl
        clear hs2 hl hl3
        go_wp2
        refine bodyPost_ret (v := .agg #[.slice a0 n0 c0, .slice a1 n1 c1, .slice a2 n2 c2]) (by simp [results, Tryz.results89, go_sem, x0, x1, x2]) rfl ⟨_, _, _, un, ra, L, rfl, HL.out, HM.out, HR.out.set3 (b := w.heap.size) (fun b hb => by omega), HS2.out.1, HS2.out.2⟩
/-- the reference's coupon is the coupon -/
theorem r34coupon_any (id un is ma ra ev : Int) (ix : Bool) (n : Int) (w : World) :
    Calls Tryz.prog 79 #[.agg #[.int .i64 id, .int .i64 un, .int .i64 is, .int .i64 ma, .int .i64 ra, .int .i64 ev, .bool ix], .int .i64 n] w fun e w' => e = .returned (.tuple #[.int .i64 (cpN id un is ma ra ev n), .int .i64 (ccE id un is ma ra ev n)]) ∧ Below w.heap.size w w' := by
  cases hs : secB id un is ma ra ev
  · have hf := Lib.hid (show ccE id un is ma ra ev n = 76 ∧ cpN id un is ma ra ev n = 0 by simp [ccE, cpN, hs])
    go_enter Tryz.func79, Tryz.ntmps79
    go_wp2_with fail
    refine (r33sec_any id un is ma ra ev ix _).mono ?_
    rw [hs]
    rintro e w1 ⟨rfl, hb⟩
    have hB := below_box hb
    go_wp2
    go_ret2
    exact ⟨ret_ee ⟨hf.out.2.symm, hf.out.1.symm⟩, hB⟩
  cases hn : inB n 0 1000000000000
  · have hf := Lib.hid (show ccE id un is ma ra ev n = 2 ∧ cpN id un is ma ra ev n = 0 by simp [ccE, cpN, hs, hn])
    go_enter Tryz.func79, Tryz.ntmps79
    go_wp2_with fail
    refine (r33sec_any id un is ma ra ev ix _).mono ?_
    rw [hs]
    rintro e w1 ⟨rfl, hb⟩
    have hB := below_box hb
    go_wp2_with (go_at_call 129; refine (r01valid_any _ _).mono ?_; rw [hn]; rintro e w' ⟨rfl, rfl⟩)
    go_ret2
    exact ⟨ret_ee ⟨hf.out.2.symm, hf.out.1.symm⟩, hB⟩
  obtain ⟨n0, n1⟩ := inB_iff.1 hn
  have hz := ccE_of (secB_iff.1 hs) n0 n1
  have hf := Lib.hid (show ccE id un is ma ra ev n = 0 ∧ cpN id un is ma ra ev n = (n * ra * ev + 600000) / 1200000 from ⟨hz, if_pos hz⟩)
  obtain ⟨_, _, _, _, _, _, _, _, r0, r1, he⟩ := secB_iff.1 hs
  have e0 : 0 ≤ ev ∧ ev ≤ 12 := by omega
  obtain ⟨e0, e1⟩ := e0
  obtain ⟨p0, p1⟩ := mul_bd n0 n1 r0 r1
  obtain ⟨q0, q1⟩ := mul_bd p0 p1 e0 e1
  have HS := Lib.hid hs
  clear he hz hs
  go_enter Tryz.func79, Tryz.ntmps79
  go_wp2_with fail
  refine (r33sec_any id un is ma ra ev ix _).mono ?_
  rw [HS.out]
  rintro e w1 ⟨rfl, hb⟩
  obtain ⟨hc, hfz⟩ := bcell hb
  have hz : w.heap.size < w1.heap.size := by have := hb.size; simp at this; omega
  have hB := below_box hb
  go_wp2_with (go_at_call 129; refine (r01valid_any _ _).mono ?_; rw [hn]; rintro e w' ⟨rfl, rfl⟩)
  go_ret2
  exact ⟨ret_ee ⟨hf.out.2.symm, hf.out.1.symm⟩, hB⟩
set_option maxHeartbeats 1000000 in
theorem r34daysD_any (id un is ma ra ev : Int) (ix : Bool) (w : World) :
    Calls Tryz.prog 46 #[.agg #[.int .i64 id, .int .i64 un, .int .i64 is, .int .i64 ma, .int .i64 ra, .int .i64 ev, .bool ix]] w (DaysMade id un is ma ra ev w) := by
  cases hs : secB id un is ma ra ev
  · have hn : dayN id un is ma ra ev = 0 := by simp [dayN, hs]
    have HN := Lib.hid hn
    clear hn
    go_enter Tryz.func46, Tryz.ntmps46
    go_wp2_with fail
    refine (r33sec_any id un is ma ra ev ix _).mono ?_
    rw [hs]
    rintro e w1 ⟨rfl, hb⟩
    have hB := below_box hb
    go_wp2
    go_ret
    exact ⟨_, rfl, by rw [HN.out]; exact ⟨none, 0, rfl, Nat.le_refl _, Nat.zero_le _, .inl rfl⟩, hB⟩
  · obtain ⟨_, _, _, _, i0, m0, m1, m2, r0, r1, he⟩ := secB_iff.1 hs
    have HS := Lib.hid hs
    by_cases e0 : ev = 0
    · have hn : dayN id un is ma ra ev = 0 := by simp [dayN, e0]
      have HN := Lib.hid hn
      have e1 : (ev == 0) = true := by simpa using e0
      clear hn he e0 hs
      go_enter Tryz.func46, Tryz.ntmps46
      go_wp2_with fail
      refine (r33sec_any id un is ma ra ev ix _).mono ?_
      rw [HS.out]
      rintro e w1 ⟨rfl, hb⟩
      obtain ⟨hc, hf⟩ := bcell hb
      have hB := below_box hb
      have hz : w.heap.size < w1.heap.size := by have := hb.size; simp at this; omega
      go_wp2
      go_ret
      exact ⟨_, rfl, by rw [HN.out]; exact ⟨none, 0, rfl, Nat.le_refl _, Nat.zero_le _, .inl rfl⟩, hB⟩
    · have hn : dayN id un is ma ra ev = ((ma - is) / (30 * ev)).toNat := by simp [dayN, hs, e0]
      have HN := Lib.hid hn
      have e1 : 1 ≤ ev := by omega
      have e2 : ev ≤ 12 := by omega
      have e3 : (ev == 0) = false := by simpa using e0
      clear hn he e0 hs
      obtain ⟨i1, hi, hz0, hz1, hz2⟩ := info_parts infoInt
      go_enter Tryz.func46, Tryz.ntmps46
      go_wp2_with fail
      refine (r33sec_any id un is ma ra ev ix _).mono ?_
      rw [HS.out]
      rintro e w1 ⟨rfl, hb⟩
      have hB := below_box hb
      have hz : w.heap.size < w1.heap.size := by have := hb.size; simp at this; omega
      have b2 : w1.cell? ⟨w.heap.size, 2, none⟩ = some (.int .i64 is) := by obtain ⟨hc, _⟩ := bcell hb; rw [hc _ _ (by simp), World.cell?_alloc_at _ _ _ _ rfl]; rfl
      have b3 : w1.cell? ⟨w.heap.size, 3, none⟩ = some (.int .i64 ma) := by obtain ⟨hc, _⟩ := bcell hb; rw [hc _ _ (by simp), World.cell?_alloc_at _ _ _ _ rfl]; rfl
      have b5 : w1.cell? ⟨w.heap.size, 5, none⟩ = some (.int .i64 ev) := by obtain ⟨hc, _⟩ := bcell hb; rw [hc _ _ (by simp), World.cell?_alloc_at _ _ _ _ rfl]; rfl
      clear hb
      go_wp2
      go_loopw [3, 4] (fun v dv wr => ∃ (k : Nat) (d : Int), dv = .int .i64 d ∧ DInv is ma ev k d ∧ wr.ownsRow w1.heap.size 3 1 v k (dayCells is ev k) ∧ Below w1.heap.size w1 wr) (fun _ dv _ => (ma + 361 - intOf dv).toNat)
      case atStart => exact ⟨0, _, rfl, dinv_start e1 (by omega), World.ownsRow_nil _ _ _ _, Below.refl _ _⟩
      case round =>
        obtain ⟨k, d, rfl, hI, hown, hbr⟩ := hrel
        have d1 := hI.lo
        have d2 := hI.hi
        have d3 := hI.kk
        have HI := Lib.hid hI
        have c2 : wr.cell? ⟨w.heap.size, 2, none⟩ = some (.int .i64 is) := (hbr.cell (by exact hz)).trans b2
        have c3 : wr.cell? ⟨w.heap.size, 3, none⟩ = some (.int .i64 ma) := (hbr.cell (by exact hz)).trans b3
        have c5 : wr.cell? ⟨w.heap.size, 5, none⟩ = some (.int .i64 ev) := (hbr.cell (by exact hz)).trans b5
        have zr := hbr.size
        clear hI
        by_cases hd : d ≤ ma
        · go_wp2_with (at_builtin; go_must (refine wpList_append_own _ rfl _ _ 22 rfl w1.heap.size 3 i1 (.int .i64 0) 1 8 Tryz.underlying22 hi hz0 hz1 hz2 rfl (by decide) _ _ _ rfl (hown.alloc _) ⟨wr.heap.size, 0, none⟩ 1 1 [.int .i64 d] rfl rfl (news1 _ _ _) (one1 _ _) (by unfold maxLen; omega) (by omega) (by simp; omega) ?_); intro v' w2 hown' hgrow _; have hb2 : Below w1.heap.size w1 w2 := (hbr.alloc hbr.size _).grown hgrow (by simp; omega) (fun q hq => (hown.lt q hq).1); have c5' := (hb2.cell (p := ⟨w.heap.size, 5, none⟩) (by exact hz)).trans b5)
          go_roundw
          case rel => exact ⟨k + 1, d + 30 * ev, by go_num, dinv_step HI.out e1 hd, by rw [dayCells_succ, ← HI.out.d0]; exact hown', hb2⟩
          case measure => simp [intOf]; omega
        · have hk := dinv_end HI.out e1 (by omega) (by omega)
          go_wp2
          go_ret
          exact ⟨_, rfl, by rw [HN.out, ← hk]; exact (SlAt.own hown).mono (fun b h => by omega), hB.trans (hbr.mono (by omega))⟩
structure Bid where
  bd : Int
  num : Int
  p : Int
  a : Int
  f : Bool
def encBid (a : Bid) : List Value := [.int .i64 a.bd, .int .i64 a.num, .int .i64 a.p, .int .i64 a.a, .bool a.f]
theorem encBid_len (a : Bid) : (encBid a).length = 5 := rfl
theorem oneBid (a : Bid) : ∀ u ∈ encBid a, u.oneCell' = true := by
  intro u hu
  simp only [encBid, List.mem_cons, List.not_mem_nil, or_false] at hu
  rcases hu with rfl | rfl | rfl | rfl | rfl <;> rfl
theorem Sl.bid {P : Nat → Prop} {w : World} {ao : Option Addr} {n c k : Nat} {L : List Bid} (h : Sl 5 encBid P w (.slice ao n c) L) (hk : k < n) :
    ∃ b off vbd vnum vp va vf, ao = some ⟨b, off, none⟩ ∧ P b ∧ b < w.heap.size ∧ L[k]? = some ⟨vbd, vnum, vp, va, vf⟩ ∧ w.cell? ⟨b, off + k * 5, none⟩ = some (.int .i64 vbd) ∧ w.cell? ⟨b, off + k * 5 + 1, none⟩ = some (.int .i64 vnum) ∧ w.cell? ⟨b, off + k * 5 + 2, none⟩ = some (.int .i64 vp) ∧ w.cell? ⟨b, off + k * 5 + 3, none⟩ = some (.int .i64 va) ∧ w.cell? ⟨b, off + k * 5 + 4, none⟩ = some (.bool vf) := by
  obtain ⟨b, off, ⟨vbd, vnum, vp, va, vf⟩, h1, h2, h3, h4, h5⟩ := h.at_ hk
  exact ⟨b, off, vbd, vnum, vp, va, vf, h1, h2, h3, h4, h5 0 _ rfl, h5 1 _ rfl, h5 2 _ rfl, h5 3 _ rfl, h5 4 _ rfl⟩
theorem infoBid : (Tryz.prog.info? 241).map (fun i => (i.zero, i.size, i.bytes)) = some (some (.agg #[.int .i64 0, .int .i64 0, .int .i64 0, .int .i64 0, .bool false]), 5, 40) := by kernel_rfl
structure Awd where
  bd : Int
  num : Int
  a : Int
  p : Int
def encAwd (a : Awd) : List Value := [.int .i64 a.bd, .int .i64 a.num, .int .i64 a.a, .int .i64 a.p]
theorem encAwd_len (a : Awd) : (encAwd a).length = 4 := rfl
theorem oneAwd (a : Awd) : ∀ u ∈ encAwd a, u.oneCell' = true := by
  intro u hu
  simp only [encAwd, List.mem_cons, List.not_mem_nil, or_false] at hu
  rcases hu with rfl | rfl | rfl | rfl <;> rfl
theorem Sl.awd {P : Nat → Prop} {w : World} {ao : Option Addr} {n c k : Nat} {L : List Awd} (h : Sl 4 encAwd P w (.slice ao n c) L) (hk : k < n) :
    ∃ b off vbd vnum va vp, ao = some ⟨b, off, none⟩ ∧ P b ∧ b < w.heap.size ∧ L[k]? = some ⟨vbd, vnum, va, vp⟩ ∧ w.cell? ⟨b, off + k * 4, none⟩ = some (.int .i64 vbd) ∧ w.cell? ⟨b, off + k * 4 + 1, none⟩ = some (.int .i64 vnum) ∧ w.cell? ⟨b, off + k * 4 + 2, none⟩ = some (.int .i64 va) ∧ w.cell? ⟨b, off + k * 4 + 3, none⟩ = some (.int .i64 vp) := by
  obtain ⟨b, off, ⟨vbd, vnum, va, vp⟩, h1, h2, h3, h4, h5⟩ := h.at_ hk
  exact ⟨b, off, vbd, vnum, va, vp, h1, h2, h3, h4, h5 0 _ rfl, h5 1 _ rfl, h5 2 _ rfl, h5 3 _ rfl⟩
theorem infoAwd : (Tryz.prog.info? 129).map (fun i => (i.zero, i.size, i.bytes)) = some (some (.agg #[.int .i64 0, .int .i64 0, .int .i64 0, .int .i64 0]), 4, 32) := by kernel_rfl
structure Tdr where
  h : Int
  n : Int
  p : Int
  a : Int
def encTdr (a : Tdr) : List Value := [.int .i64 a.h, .int .i64 a.n, .int .i64 a.p, .int .i64 a.a]
theorem encTdr_len (a : Tdr) : (encTdr a).length = 4 := rfl
theorem oneTdr (a : Tdr) : ∀ u ∈ encTdr a, u.oneCell' = true := by
  intro u hu
  simp only [encTdr, List.mem_cons, List.not_mem_nil, or_false] at hu
  rcases hu with rfl | rfl | rfl | rfl <;> rfl
theorem Sl.tdr {P : Nat → Prop} {w : World} {ao : Option Addr} {n c k : Nat} {L : List Tdr} (h : Sl 4 encTdr P w (.slice ao n c) L) (hk : k < n) :
    ∃ b off vh vn vp va, ao = some ⟨b, off, none⟩ ∧ P b ∧ b < w.heap.size ∧ L[k]? = some ⟨vh, vn, vp, va⟩ ∧ w.cell? ⟨b, off + k * 4, none⟩ = some (.int .i64 vh) ∧ w.cell? ⟨b, off + k * 4 + 1, none⟩ = some (.int .i64 vn) ∧ w.cell? ⟨b, off + k * 4 + 2, none⟩ = some (.int .i64 vp) ∧ w.cell? ⟨b, off + k * 4 + 3, none⟩ = some (.int .i64 va) := by
  obtain ⟨b, off, ⟨vh, vn, vp, va⟩, h1, h2, h3, h4, h5⟩ := h.at_ hk
  exact ⟨b, off, vh, vn, vp, va, h1, h2, h3, h4, h5 0 _ rfl, h5 1 _ rfl, h5 2 _ rfl, h5 3 _ rfl⟩
theorem infoTdr : (Tryz.prog.info? 122).map (fun i => (i.zero, i.size, i.bytes)) = some (some (.agg #[.int .i64 0, .int .i64 0, .int .i64 0, .int .i64 0]), 4, 32) := by kernel_rfl
/-- cells stored one after the other, from o on -/
def setAll (xs : List Value) (o : Nat) : List Value → List Value
  | [] => xs
  | v :: vs => setAll (xs.set o v) (o + 1) vs
def setAllW (w : World) (g o : Nat) : List Value → World
  | [] => w
  | v :: vs => setAllW (w.setCell ⟨g, o, none⟩ v) g (o + 1) vs
theorem setAll_mid : ∀ (vs A B C : List Value), B.length = vs.length → setAll (A ++ (B ++ C)) A.length vs = A ++ (vs ++ C)
  | [], A, B, C, h => by
    have : B = [] := List.eq_nil_of_length_eq_zero (by simpa using h)
    subst this; rfl
  | v :: vs, A, [], C, h => by simp at h
  | v :: vs, A, b :: B, C, h => by
    have e : (A ++ (b :: B ++ C)).set A.length v = (A ++ [v]) ++ (B ++ C) := by
      rw [List.set_append_right _ _ (Nat.le_refl _)]; simp
    have ih := setAll_mid vs (A ++ [v]) B C (by simpa using h)
    rw [setAll, e, show A.length + 1 = (A ++ [v]).length by simp, ih]
    simp
section
variable {α : Type} {enc : α → List Value} {z : Nat} {T : TypeId}
theorem flatE_setZ (hz : ∀ a, (enc a).length = z) {L : List α} {j : Nat} (hj : j < L.length) (x : α) : flatE enc (L.set j x) = setAll (flatE enc L) (j * z) (enc x) := by
  have e : L = L.take j ++ L[j] :: L.drop (j + 1) := by rw [← List.drop_eq_getElem_cons hj, List.take_append_drop]
  have e2 : L.set j x = L.take j ++ x :: L.drop (j + 1) := by
    conv => lhs; rw [e]
    rw [List.set_append_right _ _ (by simp; omega), show j - (L.take j).length = 0 by simp; omega, List.set_cons_zero]
  have hl : (flatE enc (L.take j)).length = j * z := by rw [flatE_length hz, List.length_take, Nat.min_eq_left (Nat.le_of_lt hj)]
  rw [e2]
  conv => rhs; rw [e]
  have f : ∀ y, flatE enc (L.take j ++ y :: L.drop (j + 1)) = flatE enc (L.take j) ++ (enc y ++ flatE enc (L.drop (j + 1))) := fun y => by simp [flatE]
  rw [f, f, ← hl, setAll_mid _ _ _ _ (by rw [hz, hz])]
/-- the list L lies in the row of block g -/
def RowZ (T : TypeId) (z : Nat) (enc : α → List Value) (base g n cap : Nat) (L : List α) (w : World) : Prop := w.ownsRow base T z (.slice (some ⟨g, 0, none⟩) n cap) n (flatE enc L) ∧ L.length = n
variable {base g n cap : Nat} {L : List α} {w w' : World}
theorem RowZ.drewN (h : RowZ T z enc base g n cap L w) (q : Nat) : RowZ T z enc base g n cap L (w.drewN q) := ⟨h.1, h.2⟩
theorem RowZ.below (h : RowZ T z enc base g n cap L w) (hb : Below w.heap.size w w') : RowZ T z enc base g n cap L w' := ⟨ownsRow_belowZ h.1 hb, h.2⟩
theorem RowZ.cell (hz : ∀ a, (enc a).length = z) (h : RowZ T z enc base g n cap L w) {j i : Nat} {x : α} {u : Value} (hx : L[j]? = some x) (hu : (enc x)[i]? = some u) : w.cell? ⟨g, j * z + i, none⟩ = some u := by
  have hj : j < n := by rw [← h.2]; exact (List.getElem?_eq_some_iff.1 hx).1
  have hi : i < z := by have := (List.getElem?_eq_some_iff.1 hu).1; rw [hz] at this; exact this
  have hlt : j * z + i < n * z := by
    have := Nat.mul_le_mul_right z (show j + 1 ≤ n by omega)
    rw [Nat.succ_mul] at this; omega
  rw [h.1.cellAt _ hlt]
  exact flatE_get hz L j x hx i u hu
theorem RowZ.fro (h : RowZ T z enc base g n cap L w) (o : Nat) : w.frozen? ⟨g, o, none⟩ = false := h.1.frozenAt o
theorem own_setAll {e : TypeId} {z : Nat} : ∀ (vs xs : List Value) (o : Nat) (w : World), w.ownsRow base e z (.slice (some ⟨g, 0, none⟩) n cap) n xs →
    (setAllW w g o vs).ownsRow base e z (.slice (some ⟨g, 0, none⟩) n cap) n (setAll xs o vs) ∧ w.grownBy (setAllW w g o vs) (some g)
  | [], xs, o, w, h => ⟨h, ⟨rfl, rfl, rfl, Nat.le_refl _, fun _ _ _ => rfl⟩⟩
  | v :: vs, xs, o, w, h => by
    obtain ⟨h1, g1⟩ := h.stored o v
    obtain ⟨h2, g2⟩ := own_setAll vs _ (o + 1) _ h1
    exact ⟨h2, ⟨g2.os.trans g1.os, g2.tape.trans g1.tape, g2.output.trans g1.output, Nat.le_trans g1.size g2.size, fun i hi hx => (g2.block i (Nat.lt_of_lt_of_le hi g1.size) hx).trans (g1.block i hi hx)⟩⟩
theorem RowZ.set (hz : ∀ a, (enc a).length = z) (h : RowZ T z enc base g n cap L w) {j : Nat} (hj : j < L.length) (x : α) : RowZ T z enc base g n cap (L.set j x) (setAllW w g (j * z) (enc x)) ∧ w.grownBy (setAllW w g (j * z) (enc x)) (some g) := by
  obtain ⟨h1, g1⟩ := own_setAll (enc x) (flatE enc L) (j * z) w h.1
  refine ⟨⟨?_, by rw [List.length_set]; exact h.2⟩, g1⟩
  rw [flatE_setZ hz hj]; exact h1
theorem RowZ.swap (hz : ∀ a, (enc a).length = z) (h : RowZ T z enc base g n cap L w) {i j : Nat} (hi : i < L.length) (hj : j < L.length) (x y : α) (q : Nat) :
    RowZ T z enc base g n cap ((L.set i x).set j y) ((setAllW (setAllW w g (i * z) (enc x)) g (j * z) (enc y)).drewN q) ∧ w.grownBy ((setAllW (setAllW w g (i * z) (enc x)) g (j * z) (enc y)).drewN q) (some g) := by
  obtain ⟨h1, g1⟩ := h.set hz hi x
  obtain ⟨h2, g2⟩ := h1.set hz (j := j) (by rw [List.length_set]; exact hj) y
  exact ⟨h2.drewN q, ⟨g2.os.trans g1.os, g2.tape.trans g1.tape, g2.output.trans g1.output, Nat.le_trans g1.size g2.size, fun i hi hx => (g2.block i (Nat.lt_of_lt_of_le hi g1.size) hx).trans (g1.block i hi hx)⟩⟩
end
section
variable {α : Type} {lt : α → α → Bool}
/-- 'x lies ahead of y' orders weakly -/
structure Wk (lt : α → α → Bool) : Prop where
  asym : ∀ x y, lt x y = true → lt y x = false
  tr : ∀ x y z, lt x y = false → lt y z = false → lt x z = false
theorem Wk.irr (h : Wk lt) (x : α) : lt x x = false := by
  cases e : lt x x
  · rfl
  · have := h.asym x x e; rw [e] at this; exact this
theorem Wk.lt_le (h : Wk lt) {x y z : α} (a : lt x y = true) (b : lt z y = false) : lt x z = true := by
  cases e : lt x z
  · have := h.tr x z y e b; rw [a] at this; exact this.symm
  · rfl
theorem Wk.le_lt (h : Wk lt) {x y z : α} (a : lt y x = false) (b : lt y z = true) : lt x z = true := by
  cases e : lt x z
  · have := h.tr y x z a e; rw [b] at this; exact this.symm
  · rfl
theorem Wk.lt_lt (h : Wk lt) {x y z : α} (a : lt x y = true) (b : lt y z = true) : lt x z = true := h.lt_le a (h.asym _ _ b)
/-- two lists merged: of equals the first list's come first -/
def mrg (lt : α → α → Bool) : List α → List α → List α
  | [], ys => ys
  | x :: xs, [] => x :: xs
  | x :: xs, y :: ys => if lt y x then y :: mrg lt (x :: xs) ys else x :: mrg lt xs (y :: ys)
termination_by xs ys => xs.length + ys.length
theorem mrg_nil_l (ys : List α) : mrg lt [] ys = ys := by rw [mrg]
theorem mrg_nil_r (xs : List α) : mrg lt xs [] = xs := by cases xs <;> rw [mrg]
theorem mrg_cons (x y : α) (xs ys : List α) : mrg lt (x :: xs) (y :: ys) = if lt y x then y :: mrg lt (x :: xs) ys else x :: mrg lt xs (y :: ys) := by rw [mrg]
theorem mrg_length : ∀ (A B : List α), (mrg lt A B).length = A.length + B.length
  | [], B => by rw [mrg_nil_l]; simp
  | x :: A, [] => by rw [mrg_nil_r]; simp
  | x :: A, y :: B => by
    rw [mrg_cons]
    split
    · have := mrg_length (x :: A) B; simp only [List.length_cons] at this ⊢; omega
    · have := mrg_length A (y :: B); simp only [List.length_cons] at this ⊢; omega
termination_by A B => A.length + B.length
theorem mrg_mem : ∀ (A B : List α) (z : α), z ∈ mrg lt A B ↔ z ∈ A ∨ z ∈ B
  | [], B, z => by rw [mrg_nil_l]; simp
  | x :: A, [], z => by rw [mrg_nil_r]; simp
  | x :: A, y :: B, z => by
    rw [mrg_cons]
    split
    · have := mrg_mem (x :: A) B z; simp only [List.mem_cons] at this ⊢; rw [this]
      constructor
      · rintro (h | (h | h) | h) <;> simp [h]
      · rintro ((h | h) | h | h) <;> simp [h]
    · have := mrg_mem A (y :: B) z; simp only [List.mem_cons] at this ⊢; rw [this]
      constructor
      · rintro (h | h | h | h) <;> simp [h]
      · rintro ((h | h) | h | h) <;> simp [h]
termination_by A B => A.length + B.length
theorem mrg_perm : ∀ (A B : List α), (mrg lt A B).Perm (A ++ B)
  | [], B => by rw [mrg_nil_l]; exact .refl _
  | x :: A, [] => by rw [mrg_nil_r]; simp
  | x :: A, y :: B => by
    rw [mrg_cons]
    split
    · exact ((mrg_perm (x :: A) B).cons y).trans (List.perm_middle.symm)
    · exact (mrg_perm A (y :: B)).cons x
termination_by A B => A.length + B.length
/-- merging part by part -/
theorem mrg_append : ∀ (A1 B1 : List α) {A2 B2 : List α}, (∀ x ∈ A1, ∀ y ∈ B2, lt y x = false) → (∀ x ∈ A2, ∀ y ∈ B1, lt y x = true) → mrg lt (A1 ++ A2) (B1 ++ B2) = mrg lt A1 B1 ++ mrg lt A2 B2
  | [], [], A2, B2, _, _ => by rw [mrg_nil_l]; rfl
  | [], y :: B1, A2, B2, h1, h2 => by
    rw [mrg_nil_l]
    cases A2 with
    | nil => rw [List.nil_append, mrg_nil_l, mrg_nil_l]
    | cons x A2 =>
      rw [List.nil_append, List.cons_append, mrg_cons, h2 x (List.mem_cons_self ..) y (List.mem_cons_self ..), if_pos rfl]
      have ih := mrg_append [] B1 (A2 := x :: A2) (B2 := B2) (by simp) (fun a ha b hb => h2 a ha b (List.mem_cons_of_mem _ hb))
      rw [List.nil_append, mrg_nil_l] at ih
      rw [ih]; rfl
  | x :: A1, [], A2, B2, h1, h2 => by
    rw [mrg_nil_r]
    cases B2 with
    | nil => rw [List.append_nil, mrg_nil_r, mrg_nil_r]
    | cons y B2 =>
      rw [List.nil_append, List.cons_append, mrg_cons, h1 x (List.mem_cons_self ..) y (List.mem_cons_self ..), if_neg (by simp)]
      have ih := mrg_append A1 [] (A2 := A2) (B2 := y :: B2) (fun a ha b hb => h1 a (List.mem_cons_of_mem _ ha) b hb) (by simp)
      rw [List.nil_append, mrg_nil_r] at ih
      rw [ih]; rfl
  | x :: A1, y :: B1, A2, B2, h1, h2 => by
    rw [List.cons_append, List.cons_append, mrg_cons, mrg_cons]
    split
    · have ih := mrg_append (x :: A1) B1 (A2 := A2) (B2 := B2) h1 (fun a ha b hb => h2 a ha b (List.mem_cons_of_mem _ hb))
      rw [List.cons_append] at ih
      rw [ih]; rfl
    · have ih := mrg_append A1 (y :: B1) (A2 := A2) (B2 := B2) (fun a ha b hb => h1 a (List.mem_cons_of_mem _ ha) b hb) h2
      rw [List.cons_append] at ih
      rw [ih]; rfl
termination_by A1 B1 => A1.length + B1.length
theorem mrg_assoc (H : Wk lt) : ∀ (A B C : List α), mrg lt (mrg lt A B) C = mrg lt A (mrg lt B C)
  | [], B, C => by rw [mrg_nil_l, mrg_nil_l]
  | a :: A, [], C => by rw [mrg_nil_r, mrg_nil_l]
  | a :: A, b :: B, [] => by rw [mrg_nil_r, mrg_nil_r]
  | a :: A, b :: B, c :: C => by
    have i1 := mrg_assoc H (a :: A) (b :: B) C
    have i2 := mrg_assoc H (a :: A) B (c :: C)
    have i3 := mrg_assoc H A (b :: B) (c :: C)
    rw [mrg_cons a b, mrg_cons b c]
    cases hba : lt b a
    · rw [if_neg (by simp), mrg_cons a c]
      cases hca : lt c a
      · rw [if_neg (by simp)]
        cases hcb : lt c b
        · rw [if_neg (by simp), mrg_cons a b, hba, if_neg (by simp)]
          rw [i3, mrg_cons b c, hcb, if_neg (by simp)]
        · rw [if_pos rfl, mrg_cons a c, hca, if_neg (by simp)]
          rw [i3, mrg_cons b c, hcb, if_pos rfl]
      · rw [if_pos rfl]
        have hcb : lt c b = true := H.lt_le hca hba
        rw [hcb, if_pos rfl, mrg_cons a c, hca, if_pos rfl]
        rw [← i1, mrg_cons a b, hba, if_neg (by simp)]
    · rw [if_pos rfl, mrg_cons b c]
      cases hcb : lt c b
      · rw [if_neg (by simp), if_neg (by simp), mrg_cons a b, hba, if_pos rfl, i2]
      · rw [if_pos rfl, if_pos rfl, mrg_cons a c, H.lt_lt hcb hba, if_pos rfl]
        rw [← i1, mrg_cons a b, hba, if_pos rfl]
termination_by A B C => A.length + B.length + C.length
/-- a list sorted, equals in their order -/
def srt (lt : α → α → Bool) : List α → List α
  | [] => []
  | x :: L => mrg lt [x] (srt lt L)
theorem srt_length : ∀ L : List α, (srt lt L).length = L.length
  | [] => rfl
  | x :: L => by rw [srt, mrg_length, srt_length L]; simp; omega
theorem srt_perm : ∀ L : List α, (srt lt L).Perm L
  | [] => .refl _
  | x :: L => by rw [srt]; exact (mrg_perm _ _).trans ((srt_perm L).cons x)
theorem srt_mem (L : List α) (z : α) : z ∈ srt lt L ↔ z ∈ L := (srt_perm L).mem_iff
theorem srt_append (H : Wk lt) : ∀ A B : List α, srt lt (A ++ B) = mrg lt (srt lt A) (srt lt B)
  | [], B => by rw [srt, mrg_nil_l]; rfl
  | x :: A, B => by rw [List.cons_append, srt, srt, srt_append H A B, mrg_assoc H]
theorem srt_one (x : α) : srt lt [x] = [x] := by rw [srt, srt, mrg_nil_r]
/-- ascending -/
def Asc (lt : α → α → Bool) (L : List α) : Prop := L.Pairwise fun x y => lt y x = false
theorem mrg_asc (H : Wk lt) : ∀ {A B : List α}, Asc lt A → Asc lt B → Asc lt (mrg lt A B)
  | [], B, _, hB => by rw [mrg_nil_l]; exact hB
  | x :: A, [], hA, _ => by rw [mrg_nil_r]; exact hA
  | x :: A, y :: B, hA, hB => by
    have hA' := List.pairwise_cons.1 hA
    have hB' := List.pairwise_cons.1 hB
    rw [mrg_cons]
    cases e : lt y x
    · rw [if_neg (by simp)]
      refine List.pairwise_cons.2 ⟨fun z hz => ?_, mrg_asc H hA'.2 hB⟩
      rcases (mrg_mem _ _ _).1 hz with hz | hz
      · exact hA'.1 z hz
      · rcases List.mem_cons.1 hz with rfl | hz
        · exact e
        · exact H.tr _ _ _ (hB'.1 z hz) e
    · rw [if_pos rfl]
      refine List.pairwise_cons.2 ⟨fun z hz => ?_, mrg_asc H hA hB'.2⟩
      rcases (mrg_mem _ _ _).1 hz with hz | hz
      · rcases List.mem_cons.1 hz with rfl | hz
        · exact H.asym _ _ e
        · exact H.tr _ _ _ (hA'.1 z hz) (H.asym _ _ e)
      · exact hB'.1 z hz
termination_by A B => A.length + B.length
theorem srt_asc (H : Wk lt) : ∀ L : List α, Asc lt (srt lt L)
  | [] => List.Pairwise.nil
  | x :: L => by rw [srt]; exact mrg_asc H (List.pairwise_singleton _ _) (srt_asc H L)
/-- equals keep their order: what is ahead in the sorted list is less, or equal and ahead in the list -/
def Ahd (lt : α → α → Bool) (R : α → α → Prop) (x y : α) : Prop := lt x y = true ∨ (lt y x = false ∧ R x y)
theorem mrg_ahd (H : Wk lt) {R : α → α → Prop} : ∀ {A B : List α}, A.Pairwise (Ahd lt R) → B.Pairwise (Ahd lt R) → (∀ x ∈ A, ∀ y ∈ B, R x y) → (mrg lt A B).Pairwise (Ahd lt R)
  | [], B, _, hB, _ => by rw [mrg_nil_l]; exact hB
  | x :: A, [], hA, _, _ => by rw [mrg_nil_r]; exact hA
  | x :: A, y :: B, hA, hB, hR => by
    have hA' := List.pairwise_cons.1 hA
    have hB' := List.pairwise_cons.1 hB
    have le_of : ∀ {u v : α}, Ahd lt R u v → lt v u = false := fun h => h.elim (fun h => H.asym _ _ h) (fun h => h.1)
    rw [mrg_cons]
    cases e : lt y x
    · rw [if_neg (by simp)]
      refine List.pairwise_cons.2 ⟨fun z hz => ?_, mrg_ahd H hA'.2 hB (fun a ha b hb => hR a (List.mem_cons_of_mem _ ha) b hb)⟩
      rcases (mrg_mem _ _ _).1 hz with hz | hz
      · exact hA'.1 z hz
      · refine .inr ⟨?_, hR x (List.mem_cons_self ..) z hz⟩
        rcases List.mem_cons.1 hz with rfl | hz
        · exact e
        · exact H.tr _ _ _ (le_of (hB'.1 z hz)) e
    · rw [if_pos rfl]
      refine List.pairwise_cons.2 ⟨fun z hz => ?_, mrg_ahd H hA hB'.2 (fun a ha b hb => hR a ha b (List.mem_cons_of_mem _ hb))⟩
      rcases (mrg_mem _ _ _).1 hz with hz | hz
      · rcases List.mem_cons.1 hz with rfl | hz
        · exact .inl e
        · exact .inl (H.lt_le e (le_of (hA'.1 z hz)))
      · exact hB'.1 z hz
termination_by A B => A.length + B.length
theorem srt_ahd (H : Wk lt) {R : α → α → Prop} : ∀ {L : List α}, L.Pairwise R → (srt lt L).Pairwise (Ahd lt R)
  | [], _ => List.Pairwise.nil
  | x :: L, h => by
    have h' := List.pairwise_cons.1 h
    rw [srt]
    exact mrg_ahd H (List.pairwise_singleton _ _) (srt_ahd H h'.2) (fun a ha b hb => by
      rw [List.mem_singleton.1 ha]; exact h'.1 b ((srt_mem _ _).1 hb))
theorem asc_append {A B : List α} : Asc lt (A ++ B) ↔ Asc lt A ∧ Asc lt B ∧ ∀ x ∈ A, ∀ y ∈ B, lt y x = false := List.pairwise_append
/-- one element put into an ascending list: from behind -/
theorem mrg_put {S1 S2 : List α} {x : α} (H : Wk lt) (hS : Asc lt (S1 ++ S2)) (h2 : ∀ y ∈ S2, lt x y = true) (h1 : S1 = [] ∨ ∃ S y, S1 = S ++ [y] ∧ lt x y = false) : mrg lt (S1 ++ S2) [x] = S1 ++ x :: S2 := by
  have hx : ∀ y ∈ S1, lt x y = false := by
    rcases h1 with rfl | ⟨S, y, rfl, hy⟩
    · simp
    · intro z hz
      rcases List.mem_append.1 hz with hz | hz
      · have := (asc_append.1 (asc_append.1 hS).1).2.2 z hz y (by simp)
        exact H.tr _ _ _ hy this
      · rw [List.mem_singleton.1 hz]; exact hy
  have e1 := mrg_append (lt := lt) S1 [] (A2 := S2) (B2 := [x]) (fun a ha b hb => by rw [List.mem_singleton.1 hb]; exact hx a ha) (by simp)
  have e2 := mrg_append (lt := lt) [] [x] (A2 := S2) (B2 := ([] : List α)) (by simp) (fun a ha b hb => by rw [List.mem_singleton.1 hb]; exact h2 a ha)
  rw [List.nil_append, mrg_nil_r] at e1
  rw [List.nil_append, List.append_nil, mrg_nil_l, mrg_nil_r] at e2
  rw [e1, e2]; rfl
/-- one element put into an ascending list: from the front -/
theorem mrg_put_front {S1 S2 : List α} {x : α} (h1 : ∀ y ∈ S1, lt y x = true) (h2 : ∀ y ∈ S2, lt y x = false) : mrg lt [x] (S1 ++ S2) = S1 ++ x :: S2 := by
  have e1 := mrg_append (lt := lt) [] S1 (A2 := [x]) (B2 := S2) (by simp) (fun a ha b hb => by rw [List.mem_singleton.1 ha]; exact h1 b hb)
  have e2 := mrg_append (lt := lt) [x] [] (A2 := ([] : List α)) (B2 := S2) (fun a ha b hb => by rw [List.mem_singleton.1 ha]; exact h2 b hb) (by simp)
  rw [List.nil_append, mrg_nil_l] at e1
  rw [List.nil_append, List.append_nil, mrg_nil_l, mrg_nil_r] at e2
  rw [e1, e2]; rfl
end
/-- 'x lies ahead of y', as the sort asks it -/
def ltz {α : Type} (cf : α → α → Int) (x y : α) : Bool := decide (cf x y < 0)
theorem ztrans {a b c : World} {x : Option Nat} (h : a.grownBy b x) (k : b.grownBy c x) : a.grownBy c x :=
  ⟨k.os.trans h.os, k.tape.trans h.tape, k.output.trans h.output, Nat.le_trans h.size k.size, fun i hi hx => (k.block i (Nat.lt_of_lt_of_le hi h.size) hx).trans (h.block i hi hx)⟩
theorem zrefl (a : World) (x : Option Nat) : a.grownBy a x := ⟨rfl, rfl, rfl, Nat.le_refl _, fun _ _ _ => rfl⟩
theorem zbelow {w w' : World} (h : Below w.heap.size w w') (x : Option Nat) : w.grownBy w' x := ⟨h.os, h.tape, h.output, h.size, fun b hb _ => h.block b hb⟩
theorem zget_pair {α : Type} (P R : List α) (y x : α) : (P ++ y :: x :: R)[P.length]? = some y ∧ (P ++ y :: x :: R)[P.length + 1]? = some x := by
  constructor
  · simp
  · rw [List.getElem?_append_right (by omega)]; simp
theorem zset_pair {α : Type} (P R : List α) (y x a b : α) : ((P ++ y :: x :: R).set (P.length + 1) a).set P.length b = P ++ b :: a :: R := by
  rw [List.set_append_right _ _ (by omega), List.set_append_right _ _ (by omega)]
  simp [show P.length + 1 - P.length = 1 by omega]
theorem zset_pair' {α : Type} (P R : List α) (y x a b : α) : ((P ++ y :: x :: R).set P.length a).set (P.length + 1) b = P ++ a :: b :: R := by
  rw [List.set_append_right _ _ (by omega), List.set_append_right _ _ (by omega)]
  simp [show P.length + 1 - P.length = 1 by omega]
theorem zsnoc_cases {α : Type} (L : List α) : L = [] ∨ ∃ S y, L = S ++ [y] := by
  rcases List.eq_nil_or_concat L with h | ⟨S, y, h⟩
  · exact .inl h
  · exact .inr ⟨S, y, by rw [h, List.concat_eq_append]⟩
section
variable {α : Type} {enc : α → List Value} {z : Nat} {T : TypeId} {base g n cap : Nat} {w : World}
/-- an exchange of neighbours -/
theorem RowZ.nbr (hz : ∀ a, (enc a).length = z) {P R : List α} {y x : α} (h : RowZ T z enc base g n cap (P ++ y :: x :: R) w) (q : Nat) {j jp : Nat} (hp : P.length = jp) (hj : j = jp + 1) :
    RowZ T z enc base g n cap (P ++ x :: y :: R) ((setAllW (setAllW w g (j * z) (enc y)) g (jp * z) (enc x)).drewN q) ∧ w.grownBy ((setAllW (setAllW w g (j * z) (enc y)) g (jp * z) (enc x)).drewN q) (some g) := by
  subst hj hp
  have := h.swap hz (i := P.length + 1) (j := P.length) (by simp) (by simp) y x q
  rwa [zset_pair] at this
variable {lt : α → α → Bool}
/-- the inner loop's list -/
def InInz (lt : α → α → Bool) (X S T : List α) (x : α) (j : Nat) (D : List α) : Prop :=
  ∃ S1 S2, S = S1 ++ S2 ∧ j = X.length + S1.length ∧ D = X ++ S1 ++ x :: (S2 ++ T) ∧ ∀ y ∈ S2, lt x y = true
theorem InInz.out (H : Wk lt) {X S T : List α} {x : α} {j : Nat} {D : List α} (h : InInz lt X S T x j D) (hS : Asc lt S) (hx : j = X.length ∨ ∃ y, D[j - 1]? = some y ∧ lt x y = false) : D = X ++ mrg lt S [x] ++ T := by
  obtain ⟨S1, S2, rfl, rfl, rfl, h2⟩ := h
  rw [mrg_put H hS h2]
  · simp
  · rcases zsnoc_cases S1 with rfl | ⟨S, y, rfl⟩
    · exact .inl rfl
    · refine .inr ⟨S, y, rfl, ?_⟩
      rcases hx with hx | ⟨z, hz, hlt⟩
      · simp at hx
      · have e : (X ++ (S ++ [y]) ++ x :: (S2 ++ T))[X.length + (S ++ [y]).length - 1]? = some y := by
          rw [List.getElem?_append_left (by simp), List.getElem?_append_right (by simp)]
          simp [show X.length + (S.length + 1) - 1 - X.length = S.length by omega]
        rw [e] at hz
        cases hz
        exact hlt
theorem InInz.step {X S T : List α} {x : α} {j : Nat} {D : List α} (h : InInz lt X S T x j D) (hj : X.length < j) :
    ∃ P y R, D = P ++ y :: x :: R ∧ P.length + 1 = j ∧ (lt x y = true → InInz lt X S T x P.length (P ++ x :: y :: R)) := by
  obtain ⟨S1, S2, rfl, rfl, rfl, h2⟩ := h
  rcases zsnoc_cases S1 with rfl | ⟨S, y, rfl⟩
  · simp at hj
  · refine ⟨X ++ S, y, S2 ++ T, by simp, by simp; omega, fun hl => ⟨S, y :: S2, by simp, by simp, by simp, fun z hz => ?_⟩⟩
    rcases List.mem_cons.1 hz with rfl | hz
    · exact hl
    · exact h2 z hz
theorem InInz.mem {X S T : List α} {x : α} {j : Nat} {D : List α} (h : InInz lt X S T x j D) {Q : α → Prop} (hS : ∀ z ∈ S, Q z) (hj : X.length < j) {y : α} (hy : D[j - 1]? = some y) : Q y := by
  obtain ⟨S1, S2, rfl, rfl, rfl, h2⟩ := h
  rw [List.getElem?_append_left (by simp; omega), List.getElem?_append_right (by omega)] at hy
  exact hS y (List.mem_append_left _ (List.mem_of_getElem? hy))
end
/-- what lies in the row when j elements have been looked at and i kept -/
structure DlI {α : Type} (L : List α) (p : α → Bool) (D : List α) (i j : Nat) : Prop where
  len : D.length = L.length
  lo : D.take i = (L.take j).filter fun x => !p x
  hi : D.drop j = L.drop j
  lt : i < j
  le : j ≤ L.length
theorem own_sl {w : World} {base : Nat} {e : TypeId} {z : Nat} {v : Value} {n : Nat} {xs : List Value} (h : w.ownsRow base e z v n xs) : ∃ ao c, v = .slice ao n c := by
  rcases h.2 with ⟨rfl, rfl⟩ | ⟨g, cap, cur, rfl, _⟩
  · exact ⟨_, _, rfl⟩
  · exact ⟨_, _, rfl⟩
section
variable {α : Type} {L D : List α} {p : α → Bool} {i j : Nat}
theorem dl_find : ∀ {L : List α} {k : Nat}, L.findIdx p = k → k < L.length → (L.take (k + 1)).filter (fun x => !p x) = L.take k
  | [], k, _, h => by simp at h
  | x :: L, k, h, hk => by
    rw [List.findIdx_cons] at h
    cases hx : p x with
    | true => rw [hx] at h; simp at h; subst h; simp [hx]
    | false =>
      rw [hx] at h
      simp only [cond_false] at h
      subst h
      simp only [List.length_cons] at hk
      have := dl_find (L := L) rfl (by omega)
      simp only [List.take_succ_cons, List.filter_cons, hx, Bool.not_false, if_true]
      rw [this]
theorem dl_none : ∀ {L : List α}, L.length ≤ L.findIdx p → L.filter (fun x => !p x) = L
  | [], _ => rfl
  | x :: L, h => by
    rw [List.findIdx_cons] at h
    cases hx : p x with
    | true => rw [hx] at h; simp at h
    | false =>
      rw [hx] at h
      simp only [cond_false, List.length_cons] at h
      have := dl_none (L := L) (by omega)
      simp [hx, this]
theorem DlI.start {k : Nat} (h : L.findIdx p = k) (hk : k < L.length) : DlI L p L k (k + 1) := ⟨rfl, (dl_find h hk).symm, rfl, by omega, by omega⟩
theorem DlI.get (h : DlI L p D i j) : D[j]? = L[j]? := by
  have := h.hi
  have e1 : (D.drop j)[0]? = (L.drop j)[0]? := by rw [this]
  simpa using e1
theorem DlI.skip (h : DlI L p D i j) {x : α} (hx : L[j]? = some x) (hp : p x = true) : DlI L p D i (j + 1) := by
  have hj := (List.getElem?_eq_some_iff.1 hx).1
  refine ⟨h.len, ?_, ?_, by have := h.lt; omega, by omega⟩
  · rw [take_snocZ hx, List.filter_append, ← h.lo]; simp [hp]
  · have := congrArg (List.drop 1) h.hi
    simpa [List.drop_drop] using this
theorem DlI.keep (h : DlI L p D i j) {x : α} (hx : L[j]? = some x) (hp : p x = false) : DlI L p (D.set i x) (i + 1) (j + 1) := by
  have hj := (List.getElem?_eq_some_iff.1 hx).1
  have hl := h.len
  have hlt := h.lt
  refine ⟨by simpa using h.len, ?_, ?_, by omega, by omega⟩
  · have e : (D.set i x)[i]? = some x := by rw [List.getElem?_set]; simp; omega
    rw [take_snocZ hx, List.filter_append, ← h.lo, take_snocZ e, List.take_set_of_le (Nat.le_refl _)]; simp [hp]
  · have := congrArg (List.drop 1) h.hi
    rw [List.drop_set_of_lt (by omega)]
    simpa [List.drop_drop] using this
theorem zero_one {Z : Array Value} (h : ∀ u ∈ Z.toList, u.oneCell' = true) (n : Nat) : ∀ u ∈ (Builtin.zeroCells Z n).toList, u.oneCell' = true := by
  intro u hu
  simp only [Builtin.zeroCells, Array.toList_map, List.mem_map] at hu
  obtain ⟨i, hi, rfl⟩ := hu
  have hlt : i < n * Z.size := by simpa using hi
  have hz : 0 < Z.size := by rcases Nat.eq_zero_or_pos Z.size with h0 | h0; (· rw [h0] at hlt; omega); · exact h0
  have hm : i % Z.size < Z.size := Nat.mod_lt _ hz
  rw [getElem!_pos Z _ hm]
  exact h _ (by simp)
theorem DlI.fin (h : DlI L p D i j) (hj : L.length ≤ j) : D.take i = L.filter fun x => !p x := by rw [h.lo, take_all hj]
theorem DlI.ilt (h : DlI L p D i j) : i < D.length := by have := h.len; have := h.lt; have := h.le; omega
/-- the row cut and its tail cleared -/
theorem RowZ.cut {T : TypeId} {z : Nat} {enc : α → List Value} (hz : ∀ a, (enc a).length = z) {base g n cap : Nat} {w W : World} {Z : List Value} (h : RowZ T z enc base g n cap D w) (hi : i ≤ n) (hZ : Z.length = (n - i) * z)
    (hW : ∀ cur, w.heap[g]? = some (.cells cur T (0, 0)) → W.heap[g]? = some (.cells (cur.toList.take (i * z) ++ Z ++ cur.toList.drop (i * z + Z.length)).toArray T (0, 0))) (hn : 0 < n) : RowZ T z enc base g i cap (D.take i) W := by
  obtain ⟨g', cap', rest, he, hbg, hg, hnc, hcm, hxl, hrl⟩ := own_whole h.1 hn
  cases he
  have hdl := h.2
  have hl : (D.take i).length = i := by rw [List.length_take]; omega
  have hf : flatE enc D = flatE enc (D.take i) ++ flatE enc (D.drop i) := by rw [← flatE_append, List.take_append_drop]
  have hfl : (flatE enc (D.take i)).length = i * z := by rw [flatE_length hz, hl]
  refine ⟨?_, hl⟩
  have hq := hW _ hg
  have e : (flatE enc D ++ rest).toArray.toList.take (i * z) = flatE enc (D.take i) := by
    simp only [hf, List.append_assoc]
    rw [← hfl]; exact List.take_left
  rw [e, List.append_assoc] at hq
  refine own_mk hbg hq (by omega) hcm hfl ?_
  simp only [List.length_append, hfl, hZ, List.length_drop, List.length_append] at hrl ⊢
  rw [hxl] at hrl
  have : (n - i) * z + i * z = n * z := by rw [← Nat.add_mul, show n - i + i = n by omega]
  rw [hxl]
  omega
end
end Go.Proofs.YthjaofgdickkaaaGreat
