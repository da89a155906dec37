/- Right registers stay right; holdings are told by what is held. No program in sight. the reference's register: Same, at equal registers. Transfers there and back, in plain lists. What a move does to what is held, in plain lists. What is outstanding is what was issued less what was redeemed, in plain lists. The holdings of a day are those that the moves until then have made, in plain lists. the reference's register: Held, Outstanding, Debt, At; register.Find. -/
import Derived.Test.YthhoaefadfeknaaGreatZRefH
import Derived.Test.YthhoaefadfeknaaGreatZRefL
import Derived.Test.YthhoaefadfeknaaGreatZRegP
namespace Go.Proofs.YthhoaefadfeknaaGreat
open Go.RowKit
set_option linter.unusedVariables false
set_option linter.unusedSimpArgs false
theorem repl_snoc {secs : List Sec} {m : Mv} : ∀ {ms : List Mv} {n d : Int} {hs : List Hold} {N D : Int} {H : List Hold}, repl secs wantAll ms n d hs = (true, N, D, H) → stepB secs N D H m = true → repl secs wantAll (ms ++ [m]) n d hs = (true, N + 1, m.day, mvH H m)
  | [], n, d, hs, N, D, H, h, hs1 => by
    simp only [repl, Prod.mk.injEq, true_and] at h
    obtain ⟨rfl, rfl, rfl⟩ := h
    simp only [List.nil_append, repl, wantAll, if_true]
    rw [if_pos hs1]
  | x :: ms, n, d, hs, N, D, H, h, hs1 => by
    simp only [List.cons_append, repl, wantAll, if_true] at h ⊢
    split at h
    · rename_i hq
      rw [if_pos hq]
      exact repl_snoc h hs1
    · simp at h
theorem rmE_zero {R : Reg} {m : Mv} (h : rmE R m = 0) : RgOk R ∧ R.ms.length ≠ 400 ∧ MvOk R.secs R.hs (rgDay R) (numbered R m) := by
  unfold rmE at h
  by_cases h0 : chkE R = 0
  · rw [if_pos h0] at h
    by_cases h1 : R.ms.length = 400
    · rw [if_pos h1] at h; omega
    · rw [if_neg h1] at h
      exact ⟨chkE_iff.1 h0, h1, mvOk_iff.1 h⟩
  · rw [if_neg h0] at h; exact absurd h h0
theorem rmR_ok {R : Reg} {m : Mv} (h : rmE R m = 0) : rmR R m = ⟨R.secs, mvH R.hs (numbered R m), R.ms ++ [numbered R m]⟩ := by unfold rmR; rw [if_pos h]
theorem RgOk.move {R : Reg} {m : Mv} (hE : rmE R m = 0) (hk : 1 ≤ m.kind ∧ m.kind ≤ 3) : RgOk (rmR R m) ∧ rgDay (rmR R m) = m.day := by
  obtain ⟨h, hl, hm⟩ := rmE_zero hE
  rw [rmR_ok hE]
  have h1 := repl_snoc h.made (stepB_iff.2 ⟨rfl, hk, hm⟩ : stepB R.secs (R.ms.length : Int) (rgDay R) R.hs (numbered R m) = true)
  have hlm := h.lm
  refine ⟨⟨h.ls, ?_, h.secs, ?_, ?_⟩, ?_⟩
  · simp only [List.length_append, List.length_cons, List.length_nil]; omega
  · simp only; rw [h1]
  · simp only; rw [h1]
  · unfold rgDay; simp only; rw [h1]; rfl
theorem chkE_move {R : Reg} {m : Mv} (hE : rmE R m = 0) (hk : 1 ≤ m.kind ∧ m.kind ≤ 3) : chkE (rmR R m) = 0 := chkE_iff.2 (RgOk.move hE hk).1
theorem secsB_ins : ∀ {L : List Sec} {p : Int} {x : Sec}, secsB p L = true → p < x.id → secOk x = true → isS L x.id = false → secsB p (L.take (posS L x.id) ++ x :: L.drop (posS L x.id)) = true
  | [], p, x, _, hp, hx, _ => by simp [secsB, hp, hx, posS]
  | y :: L, p, x, h, hp, hx, hi => by
    simp only [secsB, Bool.and_eq_true, decide_eq_true_eq] at h
    by_cases h1 : y.id < x.id
    · have hi2 : isS L x.id = false := by
        unfold isS at hi ⊢
        simp only [posS] at hi
        rw [if_pos h1] at hi
        simpa using hi
      have ih := secsB_ins h.2.2 h1 hx hi2
      simp only [posS]
      rw [if_pos h1]
      simp only [List.take_succ_cons, List.drop_succ_cons, List.cons_append, secsB, Bool.and_eq_true, decide_eq_true_eq]
      exact ⟨h.1, h.2.1, ih⟩
    · have h2 : y.id ≠ x.id := by
        intro e
        unfold isS at hi
        simp only [posS] at hi
        rw [if_neg h1] at hi
        simp [e] at hi
      simp only [posS]
      rw [if_neg h1]
      simp only [List.take_zero, List.drop_zero, List.nil_append, secsB, Bool.and_eq_true, decide_eq_true_eq]
      exact ⟨hx, hp, h.1, by omega, h.2.2⟩
theorem raE_zero {R : Reg} {x : Sec} (h : raE R x = 0) : RgOk R ∧ secOk x = true ∧ isS R.secs x.id = false ∧ R.secs.length ≠ 20 := by
  unfold raE at h
  by_cases h0 : chkE R = 0
  · rw [if_pos h0] at h
    by_cases h1 : secOk x = true ∧ isS R.secs x.id = false
    · rw [if_pos h1] at h
      by_cases h2 : R.secs.length = 20
      · rw [if_pos h2] at h; omega
      · exact ⟨chkE_iff.1 h0, h1.1, h1.2, h2⟩
    · rw [if_neg h1] at h; omega
  · rw [if_neg h0] at h; exact absurd h h0
theorem raR_ok {R : Reg} {x : Sec} (h : raE R x = 0) : raR R x = ⟨R.secs.take (posS R.secs x.id) ++ x :: R.secs.drop (posS R.secs x.id), R.hs, R.ms⟩ := by unfold raR; rw [if_pos h]
theorem RgOk.add {R : Reg} {x : Sec} (hE : raE R x = 0) (hm : R.ms = []) : RgOk (raR R x) ∧ (raR R x).ms = [] := by
  obtain ⟨h, hx, hi, hl⟩ := raE_zero hE
  rw [raR_ok hE]
  have h1 := h.ls
  have h2 := h.hs
  rw [hm] at h2
  have hp := posS_le R.secs x.id
  refine ⟨⟨?_, h.lm, secsB_ins h.secs (by have := secOk_id hx; omega) hx hi, ?_, ?_⟩, hm⟩
  · simp only [List.length_append, List.length_cons, List.length_take, List.length_drop]; omega
  · simp only; rw [hm]; rfl
  · simp only; rw [hm]; exact h2
theorem RgOk.nil : RgOk ⟨[], [], []⟩ := ⟨by simp, by simp, rfl, rfl, rfl⟩
theorem heldH_cons (x : Hold) (L : List Hold) (s h : Int) : heldH (x :: L) s h = if x.s = s ∧ x.h = h then x.a else heldH L s h := by
  simp only [heldH, eqK]
  by_cases hq : x.s = s ∧ x.h = h
  · simp [hq]
  · simp [hq]
/-- holdings are told by what is held -/
theorem hs_ext : ∀ {L M : List Hold}, srtH L → srtH M → (∀ x ∈ L, 0 < x.a) → (∀ x ∈ M, 0 < x.a) → (∀ s h, heldH L s h = heldH M s h) → L = M
  | [], [], _, _, _, _, _ => rfl
  | [], y :: M, _, _, _, hp, he => by
    have := he y.s y.h
    have h1 := hp y (List.mem_cons_self ..)
    simp [heldH, eqK] at this; omega
  | x :: L, [], _, _, hp, _, he => by
    have := he x.s x.h
    have h1 := hp x (List.mem_cons_self ..)
    simp [heldH, eqK] at this; omega
  | x :: L, y :: M, hs, ht, hp, hq, he => by
    have px := hp x (List.mem_cons_self ..)
    have py := hq y (List.mem_cons_self ..)
    have sx := srtH_head hs
    have sy := srtH_head ht
    have ex := he x.s x.h
    have ey := he y.s y.h
    have nL : ∀ s h, (s < x.s ∨ (s = x.s ∧ h ≤ x.h)) → heldH L s h = 0 := fun s h hk => heldH_out (fun z hz e => by have := sx z hz; omega)
    have nM : ∀ s h, (s < y.s ∨ (s = y.s ∧ h ≤ y.h)) → heldH M s h = 0 := fun s h hk => heldH_out (fun z hz e => by have := sy z hz; omega)
    rw [heldH_cons, heldH_cons] at ex ey
    by_cases hk : x.s = y.s ∧ x.h = y.h
    · rw [if_pos ⟨rfl, rfl⟩, if_pos ⟨hk.1.symm, hk.2.symm⟩] at ex
      have hxy : x = y := by
        obtain ⟨a, b, c⟩ := x
        obtain ⟨a', b', c'⟩ := y
        simp only at hk ex
        rw [hk.1, hk.2, ex]
      subst hxy
      refine congrArg (x :: ·) (hs_ext (srtH_tail hs) (srtH_tail ht) (fun z hz => hp z (List.mem_cons_of_mem _ hz)) (fun z hz => hq z (List.mem_cons_of_mem _ hz)) fun s h => ?_)
      by_cases hq : x.s = s ∧ x.h = h
      · rw [nL s h (by omega), nM s h (by omega)]
      · have := he s h
        rw [heldH_cons, heldH_cons, if_neg hq, if_neg hq] at this
        exact this
    · exfalso
      by_cases hlt : x.s < y.s ∨ (x.s = y.s ∧ x.h < y.h)
      · rw [if_pos ⟨rfl, rfl⟩, if_neg (by omega), nM _ _ (by omega)] at ex
        omega
      · rw [if_neg (by omega), if_pos ⟨rfl, rfl⟩, nL _ _ (by omega)] at ey
        omega
theorem HsOk.ext {L M : List Hold} (hL : HsOk L) (hM : HsOk M) (h : ∀ s h, heldH L s h = heldH M s h) : L = M := hs_ext hL.srt hM.srt hL.pos hM.pos h
end Go.Proofs.YthhoaefadfeknaaGreat
namespace Go.Proofs.YthhoaefadfeknaaGreat
open Go.RowKit
set_option linter.unusedVariables false
set_option linter.unusedSimpArgs false
theorem eqHs_self (L : List Hold) : eqHs L L = true := eqHs_iff.2 rfl
set_option maxHeartbeats 4000000 in
set_option maxRecDepth 100000 in
theorem fsame_eq (P P' : Nat → Prop) (vs vh vm us uh um : Value) (R : Reg) (w : World) (h : RgIn P w vs vh vm R) (h' : RgIn P' w us uh um R) (hS : R.secs.length ≤ 1000000) (hH : R.hs.length ≤ 1000000) (hM : R.ms.length ≤ 1000000) :
    Calls Tryz.prog 125 #[.agg #[vs, vh, vm], .agg #[us, uh, um]] w fun e w' => e = .returned (.bool true) ∧ Below w.heap.size w w' := by
  obtain ⟨a0, n0, c0, rfl, hn0, -, -⟩ := h.S.shape
  obtain ⟨a1, n1, c1, rfl, hn1, -, -⟩ := h.H.shape
  obtain ⟨a2, n2, c2, rfl, hn2, -, -⟩ := h.M.shape
  obtain ⟨b0, m0, d0, rfl, hm0, -, -⟩ := h'.S.shape
  obtain ⟨b1, m1, d1, rfl, hm1, -, -⟩ := h'.H.shape
  obtain ⟨b2, m2, d2, rfl, hm2, -, -⟩ := h'.M.shape
  obtain rfl : n0 = m0 := by omega
  obtain rfl : n1 = m1 := by omega
  obtain rfl : n2 = m2 := by omega
  have l0 : n0 ≤ 1000000 := by omega
  have l2 : n2 ≤ 1000000 := by omega
  have H := Lib.hid h
  have H' := Lib.hid h'
  clear h h' hn0 hn1 hn2 hm0 hm1 hm2 hS hM
  go_enter Tryz.func125, Tryz.ntmps125
  go_wp2_with fail
  refine (fhold_any P P' _ _ R.hs R.hs _ (H.out.H.below (bal (bal brefl _) _)) (H'.out.H.below (bal (bal brefl _) _)) hH).mono ?_
  rw [eqHs_self]
  rintro e w1 ⟨rfl, nq, rfl⟩
  go_wp2
  obtain ⟨W, hW⟩ : ∃ W, W = ((w.alloc (.cells #[.slice a0 n0 c0, .slice a1 n1 c1, .slice a2 n2 c2] 31)).alloc (.cells #[.slice b0 n0 d0, .slice b1 n1 d1, .slice b2 n2 d2] 31)).drewN nq := ⟨_, rfl⟩
  have hb : Below w.heap.size w W := by rw [hW]; exact below_drewZ (bal (bal brefl _) _) nq
  have zW : W.heap.size = w.heap.size + 2 := by rw [hW]; simp
  have k0 : W.cell? ⟨w.heap.size, 0, none⟩ = some (.slice a0 n0 c0) := by rw [hW]; exact keepA ((World.cell?_alloc_at _ _ _ _ rfl).trans rfl)
  have k2 : W.cell? ⟨w.heap.size, 2, none⟩ = some (.slice a2 n2 c2) := by rw [hW]; exact keepA ((World.cell?_alloc_at _ _ _ _ rfl).trans rfl)
  have j0 : W.cell? ⟨w.heap.size + 1, 0, none⟩ = some (.slice b0 n0 d0) := by rw [hW]; exact (World.cell?_alloc_at _ _ _ _ (by simp)).trans rfl
  have j2 : W.cell? ⟨w.heap.size + 1, 2, none⟩ = some (.slice b2 n2 d2) := by rw [hW]; exact (World.cell?_alloc_at _ _ _ _ (by simp)).trans rfl
  have HW := Lib.hid hW
  have HB := Lib.hid hb
  have HS := Lib.hid (H.out.below hb)
  have HS' := Lib.hid (H'.out.below hb)
  clear hW hb
  go_loopw [34] (fun iv wr => ∃ (k nq : Nat), k ≤ n0 ∧ iv = .int .i64 k ∧ wr = W.drewN nq) (fun iv _ => n0 - (intOf iv).toNat)
  case atStart => exact ⟨0, 0, by omega, rfl, by rw [HW.out]; rfl⟩
  case round =>
    obtain ⟨k, nq2, hk, rfl, rfl⟩ := hrel
    by_cases hlt : k < n0
    · obtain ⟨b, off, vid, vun, vis, vma, vra, vev, vix, rfl, -, -, hL, e0, e1, e2, e3, e4, e5, e6⟩ := HS.out.S.sec hlt
      obtain ⟨b', off', vid', vun', vis', vma', vra', vev', vix', rfl, -, -, hL', f0, f1, f2, f3, f4, f5, f6⟩ := HS'.out.S.sec hlt
      rw [hL] at hL'
      cases hL'
      clear hL
      have hkn : (k : Int) < n0 := by omega
      go_wp2
      go_quiet (fail)
      go_wp2
      go_roundw
      case rel => exact ⟨k + 1, _, by omega, by go_num, rfl⟩
      case measure => simp [intOf]; omega
    · go_wp2
      go_loopw [52] (fun iv wr => ∃ (k nq : Nat), k ≤ n2 ∧ iv = .int .i64 k ∧ wr = W.drewN nq) (fun iv _ => n2 - (intOf iv).toNat)
      case atStart => exact ⟨0, nq2, by omega, rfl, rfl⟩
      case round =>
        obtain ⟨j, nq3, hj, rfl, rfl⟩ := hrel
        by_cases hlt2 : j < n2
        · obtain ⟨b, off, x0, x1, x2, x3, x4, x5, x6, rfl, -, -, hL, e0, e1, e2, e3, e4, e5, e6⟩ := HS.out.M.mv hlt2
          obtain ⟨b', off', y0, y1, y2, y3, y4, y5, y6, rfl, -, -, hL', f0, f1, f2, f3, f4, f5, f6⟩ := HS'.out.M.mv hlt2
          rw [hL] at hL'
          cases hL'
          clear hL
          have hkn : (j : Int) < n2 := by omega
          go_wp2
          go_quiet (fail)
          go_wp2
          go_roundw
          case rel => exact ⟨j + 1, _, by omega, by go_num, rfl⟩
          case measure => simp [intOf]; omega
        · go_wp2
          go_ret
          exact ⟨rfl, below_drewZ HB.out _⟩
end Go.Proofs.YthhoaefadfeknaaGreat
namespace Go.Proofs.YthhoaefadfeknaaGreat
open Go.RowKit
set_option linter.unusedVariables false
set_option linter.unusedSimpArgs false
theorem mvE_vals (secs : List Sec) (hs : List Hold) (d : Int) (m : Mv) : mvE secs hs d m ≠ 78 ∧ mvE secs hs d m ≠ 3 := by
  unfold mvE mvE1
  constructor <;> (repeat' split) <;> omega
theorem mvH_both {hs : List Hold} {m : Mv} (hf : m.f ≠ 0) (ht : m.t ≠ 0) : mvH hs m = addH (addH hs m.s m.f (-m.a)) m.s m.t m.a := by
  unfold mvH addZ
  rw [if_neg ht, if_neg hf]
theorem rmE_vals {R : Reg} {m : Mv} (h : RgOk R) (hl : R.ms.length ≠ 400) : rmE R m ≠ 78 ∧ rmE R m ≠ 3 := by
  unfold rmE
  rw [if_pos (chkE_iff.2 h), if_neg hl]
  exact mvE_vals _ _ _ _
/-- a transfer there and back -/
structure There (R : Reg) (day id a b n : Int) : Prop where
  back : rmE (rmR R ⟨0, day, 2, id, a, b, n⟩) ⟨0, day, 2, id, b, a, n⟩ = 0
  same : (rmR (rmR R ⟨0, day, 2, id, a, b, n⟩) ⟨0, day, 2, id, b, a, n⟩).hs = R.hs
  froms : rgHeld (rmR R ⟨0, day, 2, id, a, b, n⟩) id a = rgHeld R id a - n
  tos : rgHeld (rmR R ⟨0, day, 2, id, a, b, n⟩) id b = rgHeld R id b + n
  debt : rgDebt (rmR R ⟨0, day, 2, id, a, b, n⟩) = rgDebt R
  ok : RgOk (rmR R ⟨0, day, 2, id, a, b, n⟩)
  bd : 0 ≤ rgHeld R id a ∧ rgHeld R id a ≤ 1000000000000 ∧ 0 ≤ rgHeld R id b ∧ rgHeld R id b ≤ 1000000000000
  ok2 : RgOk (rmR (rmR R ⟨0, day, 2, id, a, b, n⟩) ⟨0, day, 2, id, b, a, n⟩)
theorem held_le_max {L : List Hold} (h : HsOk L) (s x : Int) : 0 ≤ heldH L s x ∧ heldH L s x ≤ 1000000000000 := ⟨heldH_nonneg h.pos s x, heldH_le h s x⟩
theorem there_back {R : Reg} {day id a b n : Int} (h : RgOk R) (hl : R.ms.length ≤ 100) (ha : 1 ≤ a ∧ a ≤ 4) (hb : 1 ≤ b ∧ b ≤ 4) (hE : rmE R ⟨0, day, 2, id, a, b, n⟩ = 0) : There R day id a b n := by
  obtain ⟨-, -, hm⟩ := rmE_zero hE
  obtain ⟨hX, hdX⟩ := RgOk.move hE (by simp)
  have hr := rmR_ok hE
  have hA : rgHeld R id a = heldH R.hs id a := by unfold rgHeld; rw [if_pos (chkE_iff.2 h)]
  have hB : rgHeld R id b = heldH R.hs id b := by unfold rgHeld; rw [if_pos (chkE_iff.2 h)]
  have hD : rgDebt R = sumH R.hs := by unfold rgDebt; rw [if_pos (chkE_iff.2 h)]
  have hXA : ∀ x, rgHeld (rmR R ⟨0, day, 2, id, a, b, n⟩) id x = heldH (rmR R ⟨0, day, 2, id, a, b, n⟩).hs id x := fun x => by unfold rgHeld; rw [if_pos (chkE_iff.2 hX)]
  have hXD : rgDebt (rmR R ⟨0, day, 2, id, a, b, n⟩) = sumH (rmR R ⟨0, day, 2, id, a, b, n⟩).hs := by unfold rgDebt; rw [if_pos (chkE_iff.2 hX)]
  have hab : a ≠ b := by
    have := hm.st
    simp only [numbered, strangeB] at this
    intro e
    subst e
    simp at this
  have hH : (rmR R ⟨0, day, 2, id, a, b, n⟩).hs = addH (addH R.hs id a (-n)) id b n := by
    rw [hr]
    exact mvH_both (m := numbered R ⟨0, day, 2, id, a, b, n⟩) (by show a ≠ 0; omega) (by show b ≠ 0; omega)
  have hso := h.hok
  have s1 := addH_srt (s := id) (h := a) (-n) hso.srt
  have s2 := addH_srt (s := id) (h := b) n s1
  have held2 : ∀ s x, heldH (addH (addH R.hs id a (-n)) id b n) s x = heldH R.hs s x + (if id = s ∧ a = x then -n else 0) + (if id = s ∧ b = x then n else 0) := fun s x => by
    rw [addH_held n s x s1, addH_held (-n) s x hso.srt]
  have hsecs : (rmR R ⟨0, day, 2, id, a, b, n⟩).secs = R.secs := by rw [hr]
  have hms : (rmR R ⟨0, day, 2, id, a, b, n⟩).ms.length = R.ms.length + 1 := by rw [hr]; simp
  have hback : rmE (rmR R ⟨0, day, 2, id, a, b, n⟩) ⟨0, day, 2, id, b, a, n⟩ = 0 := by
    unfold rmE
    rw [if_pos (chkE_iff.2 hX), if_neg (by omega)]
    refine mvOk_iff.2 ⟨hm.a0, hm.a1, ?_, ?_, ?_, ?_⟩
    · have := hm.st
      simp only [numbered, strangeB] at this ⊢
      simp only [Int.reduceEq, if_false, if_true, Bool.or_eq_false_iff, Bool.not_eq_false'] at this ⊢
      refine ⟨⟨this.1.2, this.1.1⟩, ?_⟩
      simp; omega
    · intro _
      simp only [numbered]
      rw [hH, held2, if_neg (by omega), if_pos ⟨rfl, rfl⟩]
      have := (held_le_max hso id b).1
      omega
    · intro h0
      simp only [numbered] at h0
      omega
    · obtain ⟨s, f1, f2, f3, f4⟩ := hm.fi
      refine ⟨s, by rw [hsecs]; exact f1, f2, ?_, f4⟩
      rw [hdX]
      simp only [numbered] at f3 ⊢
      omega
  obtain ⟨hY, -⟩ := RgOk.move hback (by simp)
  have hr2 := rmR_ok hback
  refine ⟨hback, ?_, ?_, ?_, ?_, hX, ⟨?_, ?_, ?_, ?_⟩, hY⟩
  · refine HsOk.ext hY.hok hso fun s x => ?_
    have hH2 : (rmR (rmR R ⟨0, day, 2, id, a, b, n⟩) ⟨0, day, 2, id, b, a, n⟩).hs = addH (addH (rmR R ⟨0, day, 2, id, a, b, n⟩).hs id b (-n)) id a n := by
      rw [hr2]
      exact mvH_both (m := numbered (rmR R ⟨0, day, 2, id, a, b, n⟩) ⟨0, day, 2, id, b, a, n⟩) (by show b ≠ 0; omega) (by show a ≠ 0; omega)
    rw [hH2, hH, addH_held n s x (addH_srt _ s2), addH_held (-n) s x s2, held2]
    by_cases q1 : id = s ∧ a = x <;> by_cases q2 : id = s ∧ b = x <;> simp only [q1, q2, and_self, if_true, if_false] <;> omega
  · rw [hXA, hH, held2, hA, if_pos ⟨rfl, rfl⟩, if_neg (by omega)]; omega
  · rw [hXA, hH, held2, hB, if_neg (by omega), if_pos ⟨rfl, rfl⟩]; omega
  · rw [hXD, hH, addH_sum, addH_sum, hD]; omega
  · rw [hA]; exact (held_le_max hso id a).1
  · rw [hA]; exact (held_le_max hso id a).2
  · rw [hB]; exact (held_le_max hso id b).1
  · rw [hB]; exact (held_le_max hso id b).2
end Go.Proofs.YthhoaefadfeknaaGreat
namespace Go.Proofs.YthhoaefadfeknaaGreat
open Go.RowKit
set_option linter.unusedVariables false
set_option linter.unusedSimpArgs false
theorem up_prop {w : World} (x : Up w) : Below w.heap.size w x.1 := x.2
theorem strange_ft {m : Mv} (hk : 1 ≤ m.kind ∧ m.kind ≤ 3) (h : strangeB m = false) : m.f ≠ m.t := by
  unfold strangeB at h
  by_cases h1 : m.kind = 1
  · rw [if_pos h1, Bool.or_eq_false_iff] at h
    have a1 : m.f = 0 := by simpa using h.1
    have a2 := inB_iff.1 (by simpa using h.2 : inB m.t 1 1000 = true)
    omega
  · rw [if_neg h1] at h
    by_cases h2 : m.kind = 2
    · rw [if_pos h2, Bool.or_eq_false_iff] at h
      simpa using h.2
    · rw [if_neg h2, Bool.or_eq_false_iff] at h
      have a1 : m.t = 0 := by simpa using h.2
      have a2 := inB_iff.1 (by simpa using h.1 : inB m.f 1 1000 = true)
      omega
theorem moved_held {R : Reg} {m : Mv} (hE : rmE R m = 0) (hk : 1 ≤ m.kind ∧ m.kind ≤ 3) (i h : Int) (hh : 1 ≤ h) :
    rgHeld (rmR R m) i h = rgHeld R i h + (if m.s = i ∧ m.f = h then -m.a else 0) + (if m.s = i ∧ m.t = h then m.a else 0) := by
  obtain ⟨hok, -, hm⟩ := rmE_zero hE
  have hX := (RgOk.move hE hk).1
  have hr := rmR_ok hE
  unfold rgHeld
  rw [if_pos (chkE_iff.2 hok), if_pos (chkE_iff.2 hX), hr]
  have a0 := hm.a0
  have hso := hsOk_sub hok.hok (s := (numbered R m).s) (f := (numbered R m).f) (a := (numbered R m).a) (by omega) hm.he
  simp only [mvH]
  rw [addZ_held hso.srt _ _ _ _ _ (by omega), addZ_held hok.hok.srt _ _ _ _ _ (by omega)]
  rfl
theorem held_bd {R : Reg} (h : RgOk R) (i x : Int) : 0 ≤ rgHeld R i x ∧ rgHeld R i x ≤ 1000000000000 := by
  unfold rgHeld
  rw [if_pos (chkE_iff.2 h)]
  exact held_le_max h.hok i x
end Go.Proofs.YthhoaefadfeknaaGreat
namespace Go.Proofs.YthhoaefadfeknaaGreat
open Go.RowKit
set_option linter.unusedVariables false
set_option linter.unusedSimpArgs false
/-- what a move adds to what is outstanding -/
def mvN (m : Mv) (id : Int) : Int := if m.s = id then (if m.kind = 1 then m.a else if m.kind = 3 then -m.a else 0) else 0
/-- issued less redeemed -/
def nOf : List Mv → Int → Int
  | [], _ => 0
  | m :: ms, id => mvN m id + nOf ms id
theorem nOf_append (L M : List Mv) (id : Int) : nOf (L ++ M) id = nOf L id + nOf M id := by
  induction L with
  | nil => simp [nOf]
  | cons m L ih => simp only [List.cons_append, nOf, ih]; omega
theorem mvN_le {m : Mv} (h : 0 < m.a ∧ m.a ≤ 1000000000000) (id : Int) : -1000000000000 ≤ mvN m id ∧ mvN m id ≤ 1000000000000 := by
  unfold mvN
  split
  · split
    · omega
    · split <;> omega
  · omega
theorem nOf_bd {L : List Mv} (h : ∀ m ∈ L, 0 < m.a ∧ m.a ≤ 1000000000000) (id : Int) : ∀ k : Nat, -(1000000000000 * (k : Int)) ≤ nOf (L.take k) id ∧ nOf (L.take k) id ≤ 1000000000000 * k := by
  induction L with
  | nil => intro k; simp [nOf]; omega
  | cons m L ih =>
    intro k
    cases k with
    | zero => simp [nOf]
    | succ k =>
      have h1 := mvN_le (h m (List.mem_cons_self ..)) id
      have h2 := ih (fun x hx => h x (List.mem_cons_of_mem _ hx)) k
      simp only [List.take_succ_cons, nOf]
      omega
theorem strange_parts {m : Mv} (hk : 1 ≤ m.kind ∧ m.kind ≤ 3) (h : strangeB m = false) : (m.kind = 1 ∧ m.f = 0 ∧ m.t ≠ 0) ∨ (m.kind = 2 ∧ m.f ≠ 0 ∧ m.t ≠ 0) ∨ (m.kind = 3 ∧ m.f ≠ 0 ∧ m.t = 0) := by
  unfold strangeB at h
  by_cases h1 : m.kind = 1
  · rw [if_pos h1, Bool.or_eq_false_iff] at h
    have a1 : m.f = 0 := by simpa using h.1
    have a2 := inB_iff.1 (by simpa using h.2 : inB m.t 1 1000 = true)
    omega
  · rw [if_neg h1] at h
    by_cases h2 : m.kind = 2
    · rw [if_pos h2, Bool.or_eq_false_iff, Bool.or_eq_false_iff] at h
      have a1 := inB_iff.1 (by simpa using h.1.1 : inB m.f 1 1000 = true)
      have a2 := inB_iff.1 (by simpa using h.1.2 : inB m.t 1 1000 = true)
      omega
    · rw [if_neg h2, Bool.or_eq_false_iff] at h
      have a1 : m.t = 0 := by simpa using h.2
      have a2 := inB_iff.1 (by simpa using h.1 : inB m.f 1 1000 = true)
      omega
theorem mvH_out {hs : List Hold} {m : Mv} (hk : 1 ≤ m.kind ∧ m.kind ≤ 3) (h : strangeB m = false) (id : Int) : outH (mvH hs m) id = outH hs id + mvN m id := by
  unfold mvH mvN
  rw [addZ_out, addZ_out]
  rcases strange_parts hk h with ⟨k1, f1, t1⟩ | ⟨k1, f1, t1⟩ | ⟨k1, f1, t1⟩ <;> by_cases hs : m.s = id <;> simp [k1, f1, t1, hs] <;> omega
theorem repl_true {secs : List Sec} {m : Mv} {ms : List Mv} {n d : Int} {hs : List Hold} (h : (repl secs wantAll (m :: ms) n d hs).1 = true) : stepB secs n d hs m = true ∧ (repl secs wantAll ms (n + 1) m.day (mvH hs m)).1 = true ∧ repl secs wantAll (m :: ms) n d hs = repl secs wantAll ms (n + 1) m.day (mvH hs m) := by
  have e : repl secs wantAll (m :: ms) n d hs = if stepB secs n d hs m then repl secs wantAll ms (n + 1) m.day (mvH hs m) else (false, n, d, hs) := by simp only [repl, wantAll, if_true]
  rw [e] at h ⊢
  by_cases hq : stepB secs n d hs m = true
  · rw [if_pos hq] at h ⊢; exact ⟨hq, h, rfl⟩
  · rw [if_neg hq] at h; cases h
theorem repl_out (secs : List Sec) (id : Int) : ∀ (ms : List Mv) (n d : Int) (hs : List Hold), (repl secs wantAll ms n d hs).1 = true → outH (repl secs wantAll ms n d hs).2.2.2 id = outH hs id + nOf ms id
  | [], n, d, hs, _ => by simp [repl, nOf]
  | m :: ms, n, d, hs, h => by
    obtain ⟨h1, h2, h3⟩ := repl_true h
    rw [h3, repl_out secs id ms _ _ _ h2, mvH_out (stepB_iff.1 h1).2.1 (stepB_iff.1 h1).2.2.st]
    simp only [nOf]; omega
theorem repl_amt (secs : List Sec) : ∀ (ms : List Mv) (n d : Int) (hs : List Hold), (repl secs wantAll ms n d hs).1 = true → ∀ m ∈ ms, (0 < m.a ∧ m.a ≤ 1000000000000) ∧ (1 ≤ m.kind ∧ m.kind ≤ 3) ∧ ∃ s, findS secs m.s = some s ∧ m.a % s.un = 0
  | [], n, d, hs, _, m, hm => by simp at hm
  | x :: ms, n, d, hs, h, m, hm => by
    obtain ⟨h1, h2, h3⟩ := repl_true h
    rcases List.mem_cons.1 hm with rfl | hm
    · obtain ⟨s, f1, f2, -, -⟩ := (stepB_iff.1 h1).2.2.fi
      exact ⟨⟨(stepB_iff.1 h1).2.2.a0, (stepB_iff.1 h1).2.2.a1⟩, (stepB_iff.1 h1).2.1, s, f1, f2⟩
    · exact repl_amt secs ms _ _ _ h2 m hm
theorem addZ_mem {L : List Hold} {s h n : Int} {x : Hold} (hx : x ∈ addZ L s h n) : x.s = s ∨ x ∈ L := by
  unfold addZ at hx
  split at hx
  · exact .inr hx
  · rcases addH_mem hx with h | h
    · exact .inl h.1
    · exact .inr h
theorem repl_secs (secs : List Sec) : ∀ (ms : List Mv) (n d : Int) (hs : List Hold), (repl secs wantAll ms n d hs).1 = true → (∀ x ∈ hs, (findS secs x.s).isSome = true) → ∀ x ∈ (repl secs wantAll ms n d hs).2.2.2, (findS secs x.s).isSome = true
  | [], n, d, hs, _, hh => by simpa [repl] using hh
  | m :: ms, n, d, hs, h, hh => by
    obtain ⟨h1, h2, h3⟩ := repl_true h
    rw [h3]
    refine repl_secs secs ms _ _ _ h2 fun x hx => ?_
    obtain ⟨s, f1, -⟩ := (stepB_iff.1 h1).2.2.fi
    rcases addZ_mem hx with e | hx
    · rw [e, f1]; rfl
    · rcases addZ_mem hx with e | hx
      · rw [e, f1]; rfl
      · exact hh x hx
theorem RgOk.out {R : Reg} (h : RgOk R) (id : Int) : outH R.hs id = nOf R.ms id := by
  have := repl_out R.secs id R.ms 0 0 [] h.ok
  rw [h.hs] at this
  simpa [outH] using this
theorem RgOk.amt {R : Reg} (h : RgOk R) : ∀ m ∈ R.ms, (0 < m.a ∧ m.a ≤ 1000000000000) ∧ (1 ≤ m.kind ∧ m.kind ≤ 3) ∧ ∃ s, findS R.secs m.s = some s ∧ m.a % s.un = 0 := repl_amt R.secs R.ms 0 0 [] h.ok
theorem findS_self : ∀ {p : Int} {L : List Sec} {k : Nat} {x : Sec}, secsB p L = true → L[k]? = some x → findS L x.id = some x
  | _, [], k, x, _, hx => by simp at hx
  | p, y :: L, k, x, h, hx => by
    simp only [secsB, Bool.and_eq_true, decide_eq_true_eq] at h
    cases k with
    | zero =>
      simp only [List.getElem?_cons_zero, Option.some.injEq] at hx
      subst hx
      simp [findS]
    | succ k =>
      simp only [List.getElem?_cons_succ] at hx
      have h1 := secsB_gt h.2.2 x (List.mem_of_getElem? hx)
      simp only [findS]
      rw [if_neg (by omega)]
      exact findS_self h.2.2 hx
theorem nOf_unit {L : List Mv} {id un : Int} (h : ∀ m ∈ L, m.s = id → m.a % un = 0) : nOf L id % un = 0 := by
  apply Int.emod_eq_zero_of_dvd
  induction L with
  | nil => exact ⟨0, by simp [nOf]⟩
  | cons m L ih =>
    have h1 := ih (fun x hx => h x (List.mem_cons_of_mem _ hx))
    simp only [nOf]
    refine Int.dvd_add ?_ h1
    unfold mvN
    split
    · rename_i e
      have h2 : un ∣ m.a := Int.dvd_of_emod_eq_zero (h m (List.mem_cons_self ..) e)
      split
      · exact h2
      · split
        · exact Int.dvd_neg.2 h2
        · exact ⟨0, by simp⟩
    · exact ⟨0, by simp⟩
theorem RgOk.unit {R : Reg} (h : RgOk R) {k : Nat} {x : Sec} (hx : R.secs[k]? = some x) : nOf R.ms x.id % x.un = 0 := by
  have hf := findS_self h.secs hx
  refine nOf_unit fun m hm e => ?_
  obtain ⟨-, -, s, f1, f2⟩ := h.amt m hm
  rw [e, hf] at f1
  cases f1
  exact f2
/-- the sum over the securities -/
def debtS : List Sec → List Hold → Int
  | [], _ => 0
  | x :: L, hs => outH hs x.id + debtS L hs
theorem debtS_append (L M : List Sec) (hs : List Hold) : debtS (L ++ M) hs = debtS L hs + debtS M hs := by
  induction L with
  | nil => simp [debtS]
  | cons x L ih => simp only [List.cons_append, debtS, ih]; omega
theorem debtS_nil : ∀ L : List Sec, debtS L [] = 0
  | [] => rfl
  | x :: L => by simp [debtS, outH, debtS_nil L]
theorem debtS_one : ∀ {p : Int} {L : List Sec} (h : Hold) (hs : List Hold), secsB p L = true → debtS L (h :: hs) = (if (findS L h.s).isSome then h.a else 0) + debtS L hs
  | _, [], h, hs, _ => by simp [debtS, findS]
  | p, x :: L, h, hs, hb => by
    simp only [secsB, Bool.and_eq_true, decide_eq_true_eq] at hb
    have ih := debtS_one h hs hb.2.2
    by_cases e : x.id = h.s
    · have hn : findS L h.s = none := findS_none hb.2.2 (by omega)
      have e1 : findS (x :: L) h.s = some x := by simp [findS, e]
      simp only [hn, Option.isSome_none, Bool.false_eq_true, if_false] at ih
      simp only [debtS, outH, e1, Option.isSome_some, if_true]
      rw [if_pos e.symm]
      omega
    · have e1 : findS (x :: L) h.s = findS L h.s := by simp [findS, e]
      simp only [debtS, outH, e1]
      rw [if_neg (fun q => e q.symm)]
      omega
theorem debtS_sum {p : Int} {L : List Sec} (hb : secsB p L = true) : ∀ {hs : List Hold}, (∀ x ∈ hs, (findS L x.s).isSome = true) → debtS L hs = sumH hs
  | [], _ => by rw [debtS_nil]; rfl
  | h :: hs, hh => by
    rw [debtS_one h hs hb, hh h (List.mem_cons_self ..), if_pos rfl, debtS_sum hb (fun x hx => hh x (List.mem_cons_of_mem _ hx))]
    rfl
theorem RgOk.debt {R : Reg} (h : RgOk R) : rgDebt R = debtS R.secs R.hs := by
  unfold rgDebt
  rw [if_pos (chkE_iff.2 h)]
  refine (debtS_sum h.secs ?_).symm
  have := repl_secs R.secs R.ms 0 0 [] h.ok (by simp)
  rw [h.hs] at this
  exact this
theorem debtS_bd {L : List Sec} {hs : List Hold} (h : HsOk hs) : ∀ k : Nat, 0 ≤ debtS (L.take k) hs ∧ debtS (L.take k) hs ≤ 1000000000000 * (k : Int) := by
  induction L with
  | nil => intro k; simp [debtS]; omega
  | cons x L ih =>
    intro k
    cases k with
    | zero => simp [debtS]
    | succ k =>
      have h1 := h.out x.id
      have h2 := outH_nonneg h.pos x.id
      have h3 := ih k
      simp only [List.take_succ_cons, debtS]
      omega
end Go.Proofs.YthhoaefadfeknaaGreat
namespace Go.Proofs.YthhoaefadfeknaaGreat
open Go.RowKit
set_option linter.unusedVariables false
set_option linter.unusedSimpArgs false
theorem repl_ge {secs : List Sec} : ∀ {ms : List Mv} {n d : Int} {hs : List Hold}, (repl secs wantAll ms n d hs).1 = true → ∀ m ∈ ms, d ≤ m.day
  | [], _, _, _, _, m, hm => by simp at hm
  | x :: ms, n, d, hs, h, m, hm => by
    obtain ⟨h1, h2, -⟩ := repl_true h
    obtain ⟨s, -, -, f3, -⟩ := (stepB_iff.1 h1).2.2.fi
    rcases List.mem_cons.1 hm with rfl | hm
    · omega
    · have := repl_ge h2 m hm
      omega
/-- the moves until a day -/
def msTo (k : Int) (ms : List Mv) : List Mv := ms.filter (fun m => decide (m.day ≤ k))
theorem msTo_none {k : Int} : ∀ {ms : List Mv}, (∀ m ∈ ms, k < m.day) → msTo k ms = []
  | [], _ => rfl
  | m :: ms, h => by
    unfold msTo
    rw [List.filter_cons_of_neg (by have := h m (List.mem_cons_self ..); simp; omega)]
    exact msTo_none (fun x hx => h x (List.mem_cons_of_mem _ hx))
theorem repl_cut {secs : List Sec} (k : Int) : ∀ {ms : List Mv} {n d : Int} {hs : List Hold}, (repl secs wantAll ms n d hs).1 = true → repl secs (wantDay k) ms n d hs = repl secs wantAll (msTo k ms) n d hs ∧ (repl secs wantAll (msTo k ms) n d hs).1 = true
  | [], _, _, _, _ => ⟨rfl, rfl⟩
  | m :: ms, n, d, hs, h => by
    obtain ⟨h1, h2, h3⟩ := repl_true h
    by_cases hd : m.day ≤ k
    · have e1 : msTo k (m :: ms) = m :: msTo k ms := by unfold msTo; rw [List.filter_cons_of_pos (by simpa using hd)]
      have ih := repl_cut k h2
      have hw : wantDay k m = true := decide_eq_true hd
      rw [e1]
      simp only [repl]
      rw [if_pos hw, if_pos (show wantAll m = true from rfl), if_pos h1, if_pos h1]
      exact ih
    · have e1 : msTo k (m :: ms) = [] := by
        refine msTo_none fun x hx => ?_
        rcases List.mem_cons.1 hx with rfl | hx
        · omega
        · have := repl_ge h2 x hx; omega
      have hw : ¬ wantDay k m = true := by unfold wantDay; simpa using hd
      rw [e1]
      simp only [repl]
      rw [if_neg hw]
      constructor <;> first | rfl | trivial
theorem RgOk.cut {R : Reg} (h : RgOk R) (k : Int) : RgOk ⟨R.secs, rgAt R k, msTo k R.ms⟩ := by
  have hc := repl_cut (secs := R.secs) k (n := 0) (d := 0) (hs := []) h.ok
  have hl : (msTo k R.ms).length ≤ R.ms.length := List.length_filter_le _ _
  have h1 := h.lm
  refine ⟨h.ls, by simp only; omega, h.secs, hc.2, ?_⟩
  simp only
  unfold rgAt
  rw [if_pos (chkE_iff.2 h), hc.1]
theorem msTo_all {k : Int} : ∀ {ms : List Mv}, (∀ m ∈ ms, m.day ≤ k) → msTo k ms = ms
  | [], _ => rfl
  | m :: ms, h => by
    unfold msTo
    rw [List.filter_cons_of_pos (by simpa using h m (List.mem_cons_self ..))]
    exact congrArg (m :: ·) (msTo_all (fun x hx => h x (List.mem_cons_of_mem _ hx)))
theorem RgOk.last {R : Reg} (h : RgOk R) : rgAt R 36000 = R.hs := by
  have hd := repl_days h.sec h.ok
  unfold rgAt
  rw [if_pos (chkE_iff.2 h), (repl_cut (secs := R.secs) 36000 (n := 0) (d := 0) (hs := []) h.ok).1, msTo_all (fun m hm => (hd m hm).2)]
  exact h.hs
theorem msTo_snoc {k : Int} (L : List Mv) (m : Mv) : msTo k (L ++ [m]) = if m.day ≤ k then msTo k L ++ [m] else msTo k L := by
  unfold msTo
  rw [List.filter_append]
  by_cases h : m.day ≤ k
  · rw [if_pos h, List.filter_cons_of_pos (by simpa using h)]; rfl
  · rw [if_neg h, List.filter_cons_of_neg (by simpa using h)]; simp
theorem newsMv (w : World) (g : Nat) (hg : g = w.heap.size) (x0 x1 x2 x3 x4 x5 x6 : Int) : ∀ j u, (encMv ⟨x0, x1, x2, x3, x4, x5, x6⟩)[j]? = some u → (w.alloc (.cells #[.int .i64 x0, .int .i64 x1, .int .i64 x2, .int .i64 x3, .int .i64 x4, .int .i64 x5, .int .i64 x6] 130 (0, 0))).cell? ((⟨g, 0, none⟩ : Addr).add j) = some u := by
  subst hg
  intro j u hj
  rw [add_litZ, Nat.zero_add]
  exact cell_whole (heap_alloc_new w _) hj
theorem msTo_len (k : Int) (L : List Mv) : (msTo k L).length ≤ L.length := List.length_filter_le _ _
end Go.Proofs.YthhoaefadfeknaaGreat
namespace Go.Proofs.YthhoaefadfeknaaGreat
open Go.RowKit
set_option linter.unusedVariables false
set_option linter.unusedSimpArgs false
set_option maxHeartbeats 1000000 in
theorem fHeld_any (P : Nat → Prop) (vs vh vm : Value) (R : Reg) (s h : Int) (w : World) (hr : RgIn P w vs vh vm R) (hS : R.secs.length ≤ 1000000) (hH : R.hs.length ≤ 1000000) (hM : R.ms.length ≤ 1000000) :
    Calls Tryz.prog 51 #[.agg #[vs, vh, vm], .int .i64 s, .int .i64 h] w fun e w' => e = .returned (.int .i64 (rgHeld R s h)) ∧ Below w.heap.size w w' := by
  obtain ⟨a0, n0, c0, rfl, -, -, -⟩ := hr.S.shape
  obtain ⟨a1, n1, c1, rfl, -, -, -⟩ := hr.H.shape
  obtain ⟨a2, n2, c2, rfl, -, -, -⟩ := hr.M.shape
  have HC := Lib.hid (fun W hW => fcheck_any P _ _ _ R W (hr.below (w' := W) hW) hS hH hM)
  have HR := Lib.hid hr
  obtain ⟨E, hE⟩ : ∃ E, chkE R = E := ⟨_, rfl⟩
  obtain ⟨Q, hQ⟩ : ∃ Q, rgHeld R s h = Q := ⟨_, rfl⟩
  have hq := hQ
  unfold rgHeld at hq
  rw [hE] at HC hq
  rw [hQ]
  have HQ := Lib.hid hq
  have HE := Lib.hid hE
  clear hr hQ hE hq
  by_cases h0 : E = 0
  · subst h0
    have hok := chkE_iff.1 HE.out
    have HHELD := Lib.hid (fun W (hW : Below w.heap.size w W) => fheld_any P (.slice a1 n1 c1) R.hs s h W (HR.out.below hW).H hH)
    have hq2 := HQ.out
    rw [if_pos rfl] at hq2
    rw [hq2] at HHELD
    clear hok hq2
    go_enter Tryz.func51, Tryz.ntmps51
    go_wp2_with fail
    refine (HC.out _ (bal brefl _)).mono ?_
    rintro e w1 ⟨rfl, hb1⟩
    have r1 := boxed_cell hb1 1 rfl
    have HB1 := Lib.hid (bup (bal brefl _) hb1)
    clear hb1
    go_wp2_with fail
    refine (HHELD.out _ HB1.out).mono ?_
    rintro e w2 ⟨rfl, hb2⟩
    go_wp2
    go_ret
    exact ⟨rfl, bup HB1.out hb2⟩
  · have hE1 : (E != 0) = true := by simpa using h0
    have hE2 : (E == 0) = false := by simpa using h0
    have hf : Q = 0 := by rw [← HQ.out, if_neg h0]
    subst hf
    go_enter Tryz.func51, Tryz.ntmps51
    go_wp2_with fail
    refine (HC.out _ (bal brefl _)).mono ?_
    rintro e w1 ⟨rfl, hb1⟩
    go_wp2
    go_ret
    exact ⟨rfl, bup (bal brefl _) hb1⟩
set_option maxHeartbeats 1000000 in
theorem fOut_any (P : Nat → Prop) (vs vh vm : Value) (R : Reg) (s : Int) (w : World) (hr : RgIn P w vs vh vm R) (hS : R.secs.length ≤ 1000000) (hH : R.hs.length ≤ 1000000) (hM : R.ms.length ≤ 1000000) :
    Calls Tryz.prog 41 #[.agg #[vs, vh, vm], .int .i64 s] w fun e w' => e = .returned (.int .i64 (rgOut R s)) ∧ Below w.heap.size w w' := by
  obtain ⟨a0, n0, c0, rfl, -, -, -⟩ := hr.S.shape
  obtain ⟨a1, n1, c1, rfl, -, -, -⟩ := hr.H.shape
  obtain ⟨a2, n2, c2, rfl, -, -, -⟩ := hr.M.shape
  have HC := Lib.hid (fun W hW => fcheck_any P _ _ _ R W (hr.below (w' := W) hW) hS hH hM)
  have HR := Lib.hid hr
  obtain ⟨E, hE⟩ : ∃ E, chkE R = E := ⟨_, rfl⟩
  obtain ⟨Q, hQ⟩ : ∃ Q, rgOut R s = Q := ⟨_, rfl⟩
  have hq := hQ
  unfold rgOut at hq
  rw [hE] at HC hq
  rw [hQ]
  have HQ := Lib.hid hq
  have HE := Lib.hid hE
  clear hr hQ hE hq
  by_cases h0 : E = 0
  · subst h0
    have hok := chkE_iff.1 HE.out
    have HHELD := Lib.hid (fun W (hW : Below w.heap.size w W) => fout_any P (.slice a1 n1 c1) R.hs s W (HR.out.below hW).H hok.hok hH)
    have hq2 := HQ.out
    rw [if_pos rfl] at hq2
    rw [hq2] at HHELD
    clear hok hq2
    go_enter Tryz.func41, Tryz.ntmps41
    go_wp2_with fail
    refine (HC.out _ (bal brefl _)).mono ?_
    rintro e w1 ⟨rfl, hb1⟩
    have r1 := boxed_cell hb1 1 rfl
    have HB1 := Lib.hid (bup (bal brefl _) hb1)
    clear hb1
    go_wp2_with fail
    refine (HHELD.out _ HB1.out).mono ?_
    rintro e w2 ⟨rfl, hb2⟩
    go_wp2
    go_ret
    exact ⟨rfl, bup HB1.out hb2⟩
  · have hE1 : (E != 0) = true := by simpa using h0
    have hE2 : (E == 0) = false := by simpa using h0
    have hf : Q = 0 := by rw [← HQ.out, if_neg h0]
    subst hf
    go_enter Tryz.func41, Tryz.ntmps41
    go_wp2_with fail
    refine (HC.out _ (bal brefl _)).mono ?_
    rintro e w1 ⟨rfl, hb1⟩
    go_wp2
    go_ret
    exact ⟨rfl, bup (bal brefl _) hb1⟩
set_option maxHeartbeats 1000000 in
theorem fAt_any (P : Nat → Prop) (vs vh vm : Value) (R : Reg) (day : Int) (w : World) (hr : RgIn P w vs vh vm R) (hS : R.secs.length ≤ 1000000) (hH : R.hs.length ≤ 1000000) (hM : R.ms.length ≤ 1000000) :
    Calls Tryz.prog 99 #[.agg #[vs, vh, vm], .int .i64 day] w (GaveH (fun _ => True) (rgAt R day) w) := by
  obtain ⟨a0, n0, c0, rfl, -, -, -⟩ := hr.S.shape
  obtain ⟨a1, n1, c1, rfl, -, -, -⟩ := hr.H.shape
  obtain ⟨a2, n2, c2, rfl, -, -, -⟩ := hr.M.shape
  have HC := Lib.hid (fun W hW => fcheck_any P _ _ _ R W (hr.below (w' := W) hW) hS hH hM)
  have HR := Lib.hid hr
  obtain ⟨E, hE⟩ : ∃ E, chkE R = E := ⟨_, rfl⟩
  rw [hE] at HC
  have HE := Lib.hid hE
  clear hr hE
  by_cases h0 : E = 0
  · subst h0
    have hok := chkE_iff.1 HE.out
    have hc := repl_cut (secs := R.secs) day (n := 0) (d := 0) (hs := []) hok.ok
    have hq : rgAt R day = (repl R.secs (wantDay day) R.ms 0 0 []).2.2.2 := by unfold rgAt; rw [if_pos HE.out]
    have hb : (repl R.secs (wantDay day) R.ms 0 0 []).1 = true := by rw [hc.1]; exact hc.2
    rw [hq]
    obtain ⟨X, hX⟩ : ∃ X, repl R.secs (wantDay day) R.ms 0 0 [] = X := ⟨_, rfl⟩
    have HU := Lib.hid (fun W (hW : Below w.heap.size w W) => (show Calls Tryz.prog 166 #[.agg #[.slice a0 n0 c0, .slice a1 n1 c1, .slice a2 n2 c2], .int .i64 day] W (Until X W) by rw [← hX]; exact funtil_any P _ _ _ R day W (HR.out.below hW) hS (by have := hok.lm; omega) hok.sec))
    rw [hX] at hb ⊢
    have HX := Lib.hid hb
    clear hok hc hq hb hX
    go_enter Tryz.func99, Tryz.ntmps99
    go_wp2_with fail
    refine (HC.out _ (bal brefl _)).mono ?_
    rintro e w1 ⟨rfl, hb1⟩
    have r0 := boxed_cell hb1 0 rfl
    have r1 := boxed_cell hb1 1 rfl
    have r2 := boxed_cell hb1 2 rfl
    have HB1 := Lib.hid (bup (bal brefl _) hb1)
    clear hb1
    go_wp2_with fail
    refine (HU.out _ HB1.out).mono ?_
    rintro e w2 ⟨v, rfl, hy, -, hb2⟩
    have hSl := hy HX.out
    obtain ⟨lb, ln, lc, rfl, -, -, -⟩ := hSl.shape
    have HSl := Lib.hid hSl
    have HB2 := Lib.hid (bup HB1.out hb2)
    clear hy hb2 hSl
    go_wp2
    go_ret
    exact ⟨_, rfl, HSl.out.mono (fun _ _ _ => trivial), HB2.out⟩
  · have hE1 : (E != 0) = true := by simpa using h0
    have hE2 : (E == 0) = false := by simpa using h0
    have hq : rgAt R day = [] := by unfold rgAt; rw [if_neg (by rw [HE.out]; exact h0)]
    rw [hq]
    go_enter Tryz.func99, Tryz.ntmps99
    go_wp2_with fail
    refine (HC.out _ (bal brefl _)).mono ?_
    rintro e w1 ⟨rfl, hb1⟩
    go_wp2
    go_ret
    exact ⟨_, rfl, holdNil _ _, bup (bal brefl _) hb1⟩

theorem box_belowN {w w3 : World} {C : Array Value} {T : TypeId} (hb : Below (w.alloc (.cells C T (0, 0))).heap.size (w.alloc (.cells C T (0, 0))) w3) : w3.heap[w.heap.size]? = some (.cells C T (0, 0)) := (hb.block _ (by simp)).trans (heap_alloc_new w _)
set_option maxHeartbeats 1000000 in
theorem rfind_yes (P : Nat → Prop) (vs vh vm : Value) (R : Reg) (x : Int) (id un is ma ra ev : Int) (ix : Bool) (w : World) (hr : RgIn P w vs vh vm R) (hlen : R.secs.length ≤ 1000000) (hf : findS R.secs x = some ⟨id, un, is, ma, ra, ev, ix⟩) :
    Calls Tryz.prog 95 #[.agg #[vs, vh, vm], .int .i64 x] w fun e w' => e = .returned (.tuple #[.agg #[.int .i64 id, .int .i64 un, .int .i64 is, .int .i64 ma, .int .i64 ra, .int .i64 ev, .bool ix], .bool true]) ∧ Below w.heap.size w w' := by
  obtain ⟨a0, n0, c0, rfl, -, -, -⟩ := hr.S.shape
  obtain ⟨a1, n1, c1, rfl, -, -, -⟩ := hr.H.shape
  obtain ⟨a2, n2, c2, rfl, -, -, -⟩ := hr.M.shape
  have HF := Lib.hid (fun W (hW : Below w.heap.size w W) => find_yes P _ R.secs x id un is ma ra ev ix W (hr.S.below hW) hlen hf)
  clear hr hf
  go_enter Tryz.func95, Tryz.ntmps95
  go_wp2_with fail
  refine (HF.out _ (bal (bal brefl _) _)).mono ?_
  rintro e w1 ⟨rfl, hb1⟩
  have hx := box_belowN hb1
  simp only [World.size_alloc] at hx
  have z1 := hb1.size
  simp only [World.size_alloc] at z1
  have HB := Lib.hid (bup (bal (bal brefl _) _) hb1)
  clear hb1
  have x0 := cell_heap (i := 0) hx rfl
  have xf0 := frozen_of_row w1 _ 0 _ _ hx
  have x1 := cell_heap (i := 1) hx rfl
  have xf1 := frozen_of_row w1 _ 1 _ _ hx
  have x2 := cell_heap (i := 2) hx rfl
  have xf2 := frozen_of_row w1 _ 2 _ _ hx
  have x3 := cell_heap (i := 3) hx rfl
  have xf3 := frozen_of_row w1 _ 3 _ _ hx
  have x4 := cell_heap (i := 4) hx rfl
  have xf4 := frozen_of_row w1 _ 4 _ _ hx
  have x5 := cell_heap (i := 5) hx rfl
  have xf5 := frozen_of_row w1 _ 5 _ _ hx
  have x6 := cell_heap (i := 6) hx rfl
  have xf6 := frozen_of_row w1 _ 6 _ _ hx
  clear hx
  go_wp2
  refine bodyPost_ret (v := .tuple #[.agg #[.int .i64 id, .int .i64 un, .int .i64 is, .int .i64 ma, .int .i64 ra, .int .i64 ev, .bool ix], .bool true]) (by simp [results, Tryz.results95, go_sem, x0, x1, x2, x3, x4, x5, x6]) rfl ⟨rfl, ?_⟩
  exact bset7 HB.out (by omega) _ _ _ _ _ _ _
set_option maxHeartbeats 1000000 in
theorem rfind_no (P : Nat → Prop) (vs vh vm : Value) (R : Reg) (x : Int)  (w : World) (hr : RgIn P w vs vh vm R) (hlen : R.secs.length ≤ 1000000) (hf : findS R.secs x = none) :
    Calls Tryz.prog 95 #[.agg #[vs, vh, vm], .int .i64 x] w fun e w' => e = .returned (.tuple #[.agg #[.int .i64 0, .int .i64 0, .int .i64 0, .int .i64 0, .int .i64 0, .int .i64 0, .bool false], .bool false]) ∧ Below w.heap.size w w' := by
  obtain ⟨a0, n0, c0, rfl, -, -, -⟩ := hr.S.shape
  obtain ⟨a1, n1, c1, rfl, -, -, -⟩ := hr.H.shape
  obtain ⟨a2, n2, c2, rfl, -, -, -⟩ := hr.M.shape
  have HF := Lib.hid (fun W (hW : Below w.heap.size w W) => find_no P _ R.secs x W (hr.S.below hW) hlen hf)
  clear hr hf
  go_enter Tryz.func95, Tryz.ntmps95
  go_wp2_with fail
  refine (HF.out _ (bal (bal brefl _) _)).mono ?_
  rintro e w1 ⟨rfl, hb1⟩
  have hx := box_belowN hb1
  simp only [World.size_alloc] at hx
  have z1 := hb1.size
  simp only [World.size_alloc] at z1
  have HB := Lib.hid (bup (bal (bal brefl _) _) hb1)
  clear hb1
  have x0 := cell_heap (i := 0) hx rfl
  have xf0 := frozen_of_row w1 _ 0 _ _ hx
  have x1 := cell_heap (i := 1) hx rfl
  have xf1 := frozen_of_row w1 _ 1 _ _ hx
  have x2 := cell_heap (i := 2) hx rfl
  have xf2 := frozen_of_row w1 _ 2 _ _ hx
  have x3 := cell_heap (i := 3) hx rfl
  have xf3 := frozen_of_row w1 _ 3 _ _ hx
  have x4 := cell_heap (i := 4) hx rfl
  have xf4 := frozen_of_row w1 _ 4 _ _ hx
  have x5 := cell_heap (i := 5) hx rfl
  have xf5 := frozen_of_row w1 _ 5 _ _ hx
  have x6 := cell_heap (i := 6) hx rfl
  have xf6 := frozen_of_row w1 _ 6 _ _ hx
  clear hx
  go_wp2
  refine bodyPost_ret (v := .tuple #[.agg #[.int .i64 0, .int .i64 0, .int .i64 0, .int .i64 0, .int .i64 0, .int .i64 0, .bool false], .bool false]) (by simp [results, Tryz.results95, go_sem, x0, x1, x2, x3, x4, x5, x6]) rfl ⟨rfl, ?_⟩
  exact bset7 HB.out (by omega) _ _ _ _ _ _ _
end Go.Proofs.YthhoaefadfeknaaGreat
