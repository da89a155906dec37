/- The register's clerk: do, whole; replay. Printed by wip/gen/regh.py. -/
import Derived.Test.YthjaofgdickkaaaGreatRegF
import Derived.StillTailTactics
namespace Go.Proofs.YthjaofgdickkaaaGreat
open Go.RowKit
set_option linter.unusedVariables false
set_option linter.unusedSimpArgs false

theorem do_any (cb : Nat) (secs : List Sec) (hs : List Hold) (num day : Int) (vs v : Value) (mn md mk ms mf mt ma : Int) (w : World) (C : CkIn cb w secs hs num day vs v) (hlen : secs.length ≤ 1000000) (hok : HsOk hs) (hhl : hs.length ≤ 90000)
    (hnum : 0 ≤ num) (hnum2 : num ≤ 1000000) (hsec : ∀ s ∈ secs, secOk s = true) :
    Calls Tryz.prog 282 #[.pointer (some ⟨cb, 0, none⟩), .agg #[.int .i64 mn, .int .i64 md, .int .i64 mk, .int .i64 ms, .int .i64 mf, .int .i64 mt, .int .i64 ma]] w (DoPost cb secs vs num md (mvE secs hs day ⟨mn, md, mk, ms, mf, mt, ma⟩) (mvH hs ⟨mn, md, mk, ms, mf, mt, ma⟩) w) := by
  cases hf : findS secs ms with
  | none =>
    refine (do_none cb secs hs num day vs v mn md mk ms mf mt ma w C hlen hf).mono ?_
    rintro e w' ⟨rfl, hb⟩
    exact do_err (by unfold mvE; simp only [hf]) (by omega) hb
  | some s =>
    obtain ⟨hm, hid⟩ := findS_mem hf
    have hu := secOk_un (hsec s hm)
    obtain ⟨sid, sun, sis, sma, sra, sev, six⟩ := s
    simp only at hid hu
    subst hid
    refine do_some cb secs hs num day vs v mn md mk sid mf mt ma w C hlen hok hhl hnum hnum2 sun sis sma sra sev six hf hu.1 hu.2 (if mk = 3 then 36000 else sma) ?_ _ rfl
    by_cases h : mk = 3
    · exact .inl ⟨h, if_pos h⟩
    · exact .inr ⟨h, if_neg h⟩
theorem wantAll_any (mn md mk ms mf mt ma : Int) (w : World) :
    Calls Tryz.prog 234 #[.agg #[.int .i64 mn, .int .i64 md, .int .i64 mk, .int .i64 ms, .int .i64 mf, .int .i64 mt, .int .i64 ma]] w fun e w' => e = .returned (.bool (wantAll ⟨mn, md, mk, ms, mf, mt, ma⟩)) ∧ Below w.heap.size w w' := by
  go_enter Tryz.func234, Tryz.ntmps234
  go_wp2
  go_ret
  exact ⟨rfl, bal brefl _⟩
theorem wantDay_any (mn md mk ms mf mt ma day : Int) (db : Nat) (w : World) (h : w.cell? ⟨db, 0, none⟩ = some (.int .i64 day)) :
    Calls Tryz.prog 230 #[.agg #[.int .i64 mn, .int .i64 md, .int .i64 mk, .int .i64 ms, .int .i64 mf, .int .i64 mt, .int .i64 ma], .pointer (some ⟨db, 0, none⟩)] w fun e w' => e = .returned (.bool (wantDay day ⟨mn, md, mk, ms, mf, mt, ma⟩)) ∧ Below w.heap.size w w' := by
  have hlt := World.block_lt_of_cell? w _ h
  simp only at hlt
  have hne : ¬ db = w.heap.size := by omega
  have h' : (w.alloc (.cells #[.int .i64 mn, .int .i64 md, .int .i64 mk, .int .i64 ms, .int .i64 mf, .int .i64 mt, .int .i64 ma] 174)).cell? ⟨db, 0, none⟩ = some (.int .i64 day) := (World.cell?_alloc_past _ _ _ hlt).trans h
  by_cases hd : md ≤ day
  · have e1 : wantDay day ⟨mn, md, mk, ms, mf, mt, ma⟩ = true := by unfold wantDay; simpa using hd
    rw [e1]
    go_enter Tryz.func230, Tryz.ntmps230
    go_wp2
    go_ret
    exact ⟨rfl, bal brefl _⟩
  · have e1 : wantDay day ⟨mn, md, mk, ms, mf, mt, ma⟩ = false := by unfold wantDay; simpa using hd
    rw [e1]
    go_enter Tryz.func230, Tryz.ntmps230
    go_wp2
    go_ret
    exact ⟨rfl, bal brefl _⟩
/-- what replay leaves -/
def Replayed (vs : Value) (secs : List Sec) (R : Bool × Int × Int × List Hold) (w : World) (e : Ending) (w' : World) : Prop :=
  ∃ v, e = .returned (.tuple #[.pointer (some ⟨w.heap.size + 1, 0, none⟩), .bool R.1]) ∧ CkIn (w.heap.size + 1) w' secs R.2.2.2 R.2.1 R.2.2.1 vs v ∧ Below w.heap.size w w'
set_option maxHeartbeats 4000000 in
set_option maxRecDepth 100000 in
theorem replay_all (vs vh vm : Value) (secs : List Sec) (ms : List Mv) (w : World) (hS : Sl 7 encSec (fun _ => True) w vs secs) (hM : Sl 7 encMv (fun _ => True) w vm ms) (hlen : secs.length ≤ 1000000) (hml : ms.length ≤ 1000) (hvh : ∃ a n c, vh = .slice a n c) (hsec : ∀ s ∈ secs, secOk s = true)  :
    Calls Tryz.prog 229 #[.agg #[vs, vh, vm], .func (.func 234) #[] #[]] w (Replayed vs secs (repl secs wantAll ms 0 0 []) w) := by
  obtain ⟨ao, n, c, rfl, hn, hnc, hcm⟩ := hM.shape
  obtain ⟨a0, n0, c0, rfl, -, -, -⟩ := hS.shape
  obtain ⟨ah, nh, ch, rfl⟩ := hvh
  have hn1 : n ≤ 1000 := by omega
  obtain ⟨R, hR⟩ : ∃ R, repl secs wantAll ms 0 0 [] = R := ⟨_, rfl⟩
  have HS := Lib.hid hS
  have HM := Lib.hid hM
  have HN := Lib.hid hn
  have HR := Lib.hid hR
  have HSEC := Lib.hid hsec
  rw [hR]
  clear hS hM hn hR hsec hml
  go_enter Tryz.func229, Tryz.ntmps229
  go_wp2
  obtain ⟨W, hW⟩ : ∃ W, W = ((w.alloc (.cells #[.slice a0 n0 c0, .slice ah nh ch, .slice ao n c] 31)).alloc (.cells #[.slice a0 n0 c0, .slice none 0 0, .int .i64 0, .int .i64 0] 255)) := ⟨_, rfl⟩
  have hbW : Below w.heap.size w W := by rw [hW]; exact bal (bal brefl _) _
  have zW : W.heap.size = w.heap.size + 2 := by rw [hW]; simp
  have hC0 : CkIn (w.heap.size + 1) W secs [] 0 0 (.slice a0 n0 c0) (.slice none 0 0) := by
    rw [hW]
    refine ⟨?_, ?_, ?_, ?_, ?_, ?_, ?_, ?_, World.ownsRow_nil _ _ _ _⟩
    · rw [World.cell?_alloc_at _ _ _ _ (by simp)]; rfl
    · rw [World.cell?_alloc_at _ _ _ _ (by simp)]; rfl
    · rw [World.cell?_alloc_at _ _ _ _ (by simp)]; rfl
    · rw [World.cell?_alloc_at _ _ _ _ (by simp)]; rfl
    · exact World.frozen?_alloc_at _ _ _ _ (by simp)
    · exact World.frozen?_alloc_at _ _ _ _ (by simp)
    · exact World.frozen?_alloc_at _ _ _ _ (by simp)
    · exact ((HS.out.mono (fun b _ hb => Nat.lt_succ_of_lt hb)).alloc _).alloc _
  have HC0 := Lib.hid hC0
  have HBW := Lib.hid hbW
  clear hC0 hbW
  go_loopw [16] (fun iv wr => ∃ (k : Nat) (day : Int) (hs : List Hold) (v : Value), k ≤ n ∧ iv = .int .i64 k ∧ CkIn (w.heap.size + 1) wr secs hs k day (.slice a0 n0 c0) v ∧ HsOk hs ∧ hs.length ≤ 2 * k ∧ R = repl secs wantAll (ms.drop k) k day hs ∧ Below (w.heap.size + 1) W wr) (fun iv _ => n - (intOf iv).toNat)
  case atStart => exact ⟨0, 0, [], _, by omega, rfl, by rw [hW] at HC0; exact HC0.out, HsOk.nil, by simp, by rw [List.drop_zero]; exact HR.out.symm, by rw [hW]; exact Below.refl _ _⟩
  case round =>
    obtain ⟨k, day, hs, v, hk, rfl, hC, hok, hhl, hRk, hbr⟩ := hrel
    have zr := hbr.size
    rw [zW] at zr
    have hBr : Below w.heap.size w wr := HBW.out.trans (hbr.mono (by omega))
    have HBR := Lib.hid hbr
    have HBr := Lib.hid hBr
    have HC := Lib.hid hC
    have HOK := Lib.hid hok
    clear hC hok hbr hBr
    by_cases hlt : k < n
    · obtain ⟨b, off, mn, md, mk, mS, mf, mt, ma, rfl, -, hb', hL, k0, k1, k2, k3, k4, k5, k6⟩ := (HM.out.below HBr.out).mv hlt
      rw [drop_cons hL] at hRk
      simp only [repl] at hRk
      have HRK := Lib.hid hRk
      clear hL hRk
      have hCM : CkIn (w.heap.size + 1) (wr.alloc (.cells #[.int .i64 mn, .int .i64 md, .int .i64 mk, .int .i64 mS, .int .i64 mf, .int .i64 mt, .int .i64 ma] 174)) secs hs k day (.slice a0 n0 c0) v := HC.out.below (bal brefl _)
      obtain ⟨wn, hwn⟩ : ∃ b, wantAll ⟨mn, md, mk, mS, mf, mt, ma⟩ = b := ⟨_, rfl⟩
      have HWN := Lib.hid hwn
      have HCM := Lib.hid hCM
      clear hwn hCM
      go_wp2_with fail
      refine (wantAll_any _ _ _ _ _ _ _ _).mono ?_
      rw [HWN.out]
      rintro e w1 ⟨rfl, hb1⟩
      have hC1 := HCM.out.below hb1
      have hB1 : Below (w.heap.size + 1) W w1 := (HBR.out.alloc (by omega) _).trans (hb1.mono (by simp; omega))
      have q0 := boxed_cell hb1 0 rfl
      have q1 := boxed_cell hb1 1 rfl
      have q2 := boxed_cell hb1 2 rfl
      have q3 := boxed_cell hb1 3 rfl
      have q4 := boxed_cell hb1 4 rfl
      have q5 := boxed_cell hb1 5 rfl
      have q6 := boxed_cell hb1 6 rfl
      have d2 := hC1.h2
      have HC1 := Lib.hid hC1
      have HB1 := Lib.hid hB1
      have z1 := hb1.size
      rw [World.size_alloc] at z1
      clear hC1 hB1 hb1
      cases wn
      · have hfin : R = (true, (k : Int), day, hs) := by rw [HRK.out, HWN.out]; rfl
        have HF := Lib.hid hfin
        clear hfin
        go_wp2
        go_ret2
        exact ⟨v, by rw [HF.out]; rfl, by rw [HF.out]; exact HC1.out, HBW.out.trans (HB1.out.mono (by omega))⟩
      have hR2 : R = if stepB secs k day hs ⟨mn, md, mk, mS, mf, mt, ma⟩ then repl secs wantAll (ms.drop (k + 1)) (k + 1) md (mvH hs ⟨mn, md, mk, mS, mf, mt, ma⟩) else (false, (k : Int), day, hs) := by rw [HRK.out, HWN.out]; rfl
      have HR2 := Lib.hid hR2
      clear hR2
      by_cases hnum : mn = (k : Int) + 1
      rotate_left
      · have hfin : R = (false, (k : Int), day, hs) := by
          rw [HR2.out, if_neg]
          intro q
          exact hnum (stepB_iff.1 q).1
        have HF := Lib.hid hfin
        have n1 : (mn != (k : Int) + 1) = true := by simpa using hnum
        have n2 : (mn == (k : Int) + 1) = false := by simpa using hnum
        clear hfin
        go_wp2
        go_quiet (fail)
        go_wp2
        go_ret2
        exact ⟨v, by rw [HF.out]; rfl, by rw [HF.out]; exact HC1.out.below (below_drewZ brefl _), below_drewZ (HBW.out.trans (HB1.out.mono (by omega))) _⟩
      subst hnum
      cases hkd : inB mk 1 3
      · have hfin : R = (false, (k : Int), day, hs) := by
          rw [HR2.out, if_neg]
          intro q
          have q2 := (stepB_iff.1 q).2.1
          rw [inB_not] at hkd
          exact hkd q2
        have HF := Lib.hid hfin
        clear hfin
        go_wp2
        go_quiet ((go_at_call 226; refine (amongR_any _ _ _ _).mono ?_; rw [hkd]; exact fun _ _ hh => ⟨hh.1, _, hh.2.symm⟩))
        go_wp2
        go_ret2
        exact ⟨v, by rw [HF.out]; rfl, by rw [HF.out]; exact HC1.out.below (below_drewZ brefl _), below_drewZ (HBW.out.trans (HB1.out.mono (by omega))) _⟩
      obtain ⟨E, hE⟩ : ∃ E, mvE secs hs day ⟨(k : Int) + 1, md, mk, mS, mf, mt, ma⟩ = E := ⟨_, rfl⟩
      obtain ⟨H2, hH2⟩ : ∃ H2, mvH hs ⟨(k : Int) + 1, md, mk, mS, mf, mt, ma⟩ = H2 := ⟨_, rfl⟩
      have hD : ∀ W, CkIn (w.heap.size + 1) W secs hs k day (.slice a0 n0 c0) v → _ := fun W hC => do_any (w.heap.size + 1) secs hs k day (.slice a0 n0 c0) v ((k : Int) + 1) md mk mS mf mt ma W hC hlen HOK.out (by omega) (by omega) (by omega) HSEC.out
      rw [hE, hH2] at hD
      have HD := Lib.hid hD
      have HE := Lib.hid hE
      have HH2 := Lib.hid hH2
      clear hE hH2 hD
      by_cases hE0 : E = 0
      · subst hE0
        have hst : stepB secs k day hs ⟨(k : Int) + 1, md, mk, mS, mf, mt, ma⟩ = true := by unfold stepB; rw [HE.out, hkd]; simp
        have hRn : R = repl secs wantAll (ms.drop (k + 1)) (k + 1) md H2 := by rw [HR2.out, if_pos hst, HH2.out]
        have HRN := Lib.hid hRn
        have hok2 : HsOk H2 := by rw [← HH2.out]; exact mvH_ok HOK.out (mvOk_iff.1 HE.out)
        have hl2 : H2.length ≤ 2 * (k + 1) := by rw [← HH2.out]; have := mvH_len hs ⟨(k : Int) + 1, md, mk, mS, mf, mt, ma⟩; omega
        have HOK2 := Lib.hid hok2
        have hwk : IntKind.i64.wrap ((k : Int) + 1) = (k : Int) + 1 := IntWalk.i64_in _ (by omega)
        clear hRn hok2 hst
        go_wp2
        go_region_with (first | (go_at_call 226; refine (amongR_any _ _ _ _).mono ?_; rw [hkd]; rintro e w2 ⟨rfl, rfl⟩) | (go_at_call 282; refine (HD.out _ ?_).mono ?_; (· exact HC1.out.below (bdr brefl)); rintro e w2 (⟨h1, -, -⟩ | ⟨-, rfl, ⟨v', hC2⟩, hb2⟩); (· exact absurd rfl h1); have HC2 := Lib.hid hC2; clear hC2))
        all_goals
          go_wp2
          go_roundw
          case rel => exact ⟨k + 1, md, H2, v', by omega, by go_num, by rw [show ((k + 1 : Nat) : Int) = (k : Int) + 1 by omega]; exact HC2.out, HOK2.out, hl2, by rw [show ((k + 1 : Nat) : Int) = (k : Int) + 1 by omega]; exact HRN.out, (bdr HB1.out).trans hb2⟩
          case measure => simp [intOf]; omega
      · have hst : ¬ stepB secs k day hs ⟨(k : Int) + 1, md, mk, mS, mf, mt, ma⟩ = true := by unfold stepB; rw [HE.out]; simp [hE0]
        have hfin : R = (false, (k : Int), day, hs) := by rw [HR2.out, if_neg hst]
        have HF := Lib.hid hfin
        have hE1 : (E != 0) = true := by simpa using hE0
        have hE2 : (E == 0) = false := by simpa using hE0
        have hwk : IntKind.i64.wrap ((k : Int) + 1) = (k : Int) + 1 := IntWalk.i64_in _ (by omega)
        clear hfin hst
        go_wp2
        go_region_with (first | (go_at_call 226; refine (amongR_any _ _ _ _).mono ?_; rw [hkd]; rintro e w2 ⟨rfl, rfl⟩) | (go_at_call 282; refine (HD.out _ ?_).mono ?_; (· exact HC1.out.below (bdr brefl)); rintro e w2 (⟨-, rfl, hb2⟩ | ⟨h1, -⟩); rotate_left; (· exact absurd h1 hE0)))
        all_goals
          go_wp2
          go_ret2
          exact ⟨v, by rw [HF.out]; rfl, by rw [HF.out]; exact (HC1.out.below (bdr brefl)).below hb2, (HBW.out.trans ((bdr HB1.out).mono (by omega))).trans (hb2.mono (by have := (bdr HB1.out).size; omega))⟩
    · have hkn : k = n := by omega
      subst hkn
      have hfin : R = (true, (k : Int), day, hs) := by rw [hRk, drop_all (by have := HN.out; omega)]; rfl
      have HF := Lib.hid hfin
      clear hfin hRk
      go_wp2
      go_ret2
      exact ⟨v, by rw [HF.out]; rfl, by rw [HF.out]; exact HC.out, HBr.out⟩
set_option maxHeartbeats 4000000 in
set_option maxRecDepth 100000 in
theorem replay_day (vs vh vm : Value) (secs : List Sec) (ms : List Mv) (dd : Int) (db : Nat) (w : World) (hS : Sl 7 encSec (fun _ => True) w vs secs) (hM : Sl 7 encMv (fun _ => True) w vm ms) (hlen : secs.length ≤ 1000000) (hml : ms.length ≤ 1000) (hvh : ∃ a n c, vh = .slice a n c) (hsec : ∀ s ∈ secs, secOk s = true) (hdb : w.cell? ⟨db, 0, none⟩ = some (.int .i64 dd)) :
    Calls Tryz.prog 229 #[.agg #[vs, vh, vm], .func (.func 230) #[] #[.pointer (some ⟨db, 0, none⟩)]] w (Replayed vs secs (repl secs (wantDay dd) ms 0 0 []) w) := by
  have HDB := Lib.hid hdb
  clear hdb
  obtain ⟨ao, n, c, rfl, hn, hnc, hcm⟩ := hM.shape
  obtain ⟨a0, n0, c0, rfl, -, -, -⟩ := hS.shape
  obtain ⟨ah, nh, ch, rfl⟩ := hvh
  have hn1 : n ≤ 1000 := by omega
  obtain ⟨R, hR⟩ : ∃ R, repl secs (wantDay dd) ms 0 0 [] = R := ⟨_, rfl⟩
  have HS := Lib.hid hS
  have HM := Lib.hid hM
  have HN := Lib.hid hn
  have HR := Lib.hid hR
  have HSEC := Lib.hid hsec
  rw [hR]
  clear hS hM hn hR hsec hml
  go_enter Tryz.func229, Tryz.ntmps229
  go_wp2
  obtain ⟨W, hW⟩ : ∃ W, W = ((w.alloc (.cells #[.slice a0 n0 c0, .slice ah nh ch, .slice ao n c] 31)).alloc (.cells #[.slice a0 n0 c0, .slice none 0 0, .int .i64 0, .int .i64 0] 255)) := ⟨_, rfl⟩
  have hbW : Below w.heap.size w W := by rw [hW]; exact bal (bal brefl _) _
  have zW : W.heap.size = w.heap.size + 2 := by rw [hW]; simp
  have hC0 : CkIn (w.heap.size + 1) W secs [] 0 0 (.slice a0 n0 c0) (.slice none 0 0) := by
    rw [hW]
    refine ⟨?_, ?_, ?_, ?_, ?_, ?_, ?_, ?_, World.ownsRow_nil _ _ _ _⟩
    · rw [World.cell?_alloc_at _ _ _ _ (by simp)]; rfl
    · rw [World.cell?_alloc_at _ _ _ _ (by simp)]; rfl
    · rw [World.cell?_alloc_at _ _ _ _ (by simp)]; rfl
    · rw [World.cell?_alloc_at _ _ _ _ (by simp)]; rfl
    · exact World.frozen?_alloc_at _ _ _ _ (by simp)
    · exact World.frozen?_alloc_at _ _ _ _ (by simp)
    · exact World.frozen?_alloc_at _ _ _ _ (by simp)
    · exact ((HS.out.mono (fun b _ hb => Nat.lt_succ_of_lt hb)).alloc _).alloc _
  have HC0 := Lib.hid hC0
  have HBW := Lib.hid hbW
  clear hC0 hbW
  go_loopw [16] (fun iv wr => ∃ (k : Nat) (day : Int) (hs : List Hold) (v : Value), k ≤ n ∧ iv = .int .i64 k ∧ CkIn (w.heap.size + 1) wr secs hs k day (.slice a0 n0 c0) v ∧ HsOk hs ∧ hs.length ≤ 2 * k ∧ R = repl secs (wantDay dd) (ms.drop k) k day hs ∧ Below (w.heap.size + 1) W wr) (fun iv _ => n - (intOf iv).toNat)
  case atStart => exact ⟨0, 0, [], _, by omega, rfl, by rw [hW] at HC0; exact HC0.out, HsOk.nil, by simp, by rw [List.drop_zero]; exact HR.out.symm, by rw [hW]; exact Below.refl _ _⟩
  case round =>
    obtain ⟨k, day, hs, v, hk, rfl, hC, hok, hhl, hRk, hbr⟩ := hrel
    have zr := hbr.size
    rw [zW] at zr
    have hBr : Below w.heap.size w wr := HBW.out.trans (hbr.mono (by omega))
    have HBR := Lib.hid hbr
    have HBr := Lib.hid hBr
    have HC := Lib.hid hC
    have HOK := Lib.hid hok
    clear hC hok hbr hBr
    by_cases hlt : k < n
    · obtain ⟨b, off, mn, md, mk, mS, mf, mt, ma, rfl, -, hb', hL, k0, k1, k2, k3, k4, k5, k6⟩ := (HM.out.below HBr.out).mv hlt
      rw [drop_cons hL] at hRk
      simp only [repl] at hRk
      have HRK := Lib.hid hRk
      clear hL hRk
      have hCM : CkIn (w.heap.size + 1) (wr.alloc (.cells #[.int .i64 mn, .int .i64 md, .int .i64 mk, .int .i64 mS, .int .i64 mf, .int .i64 mt, .int .i64 ma] 174)) secs hs k day (.slice a0 n0 c0) v := HC.out.below (bal brefl _)
      obtain ⟨wn, hwn⟩ : ∃ b, (wantDay dd) ⟨mn, md, mk, mS, mf, mt, ma⟩ = b := ⟨_, rfl⟩
      have HWN := Lib.hid hwn
      have HCM := Lib.hid hCM
      clear hwn hCM
      go_wp2_with fail
      refine (wantDay_any _ _ _ _ _ _ _ dd db _ (keepA (keepB HBr.out HDB.out))).mono ?_
      rw [HWN.out]
      rintro e w1 ⟨rfl, hb1⟩
      have hC1 := HCM.out.below hb1
      have hB1 : Below (w.heap.size + 1) W w1 := (HBR.out.alloc (by omega) _).trans (hb1.mono (by simp; omega))
      have q0 := boxed_cell hb1 0 rfl
      have q1 := boxed_cell hb1 1 rfl
      have q2 := boxed_cell hb1 2 rfl
      have q3 := boxed_cell hb1 3 rfl
      have q4 := boxed_cell hb1 4 rfl
      have q5 := boxed_cell hb1 5 rfl
      have q6 := boxed_cell hb1 6 rfl
      have d2 := hC1.h2
      have HC1 := Lib.hid hC1
      have HB1 := Lib.hid hB1
      have z1 := hb1.size
      rw [World.size_alloc] at z1
      clear hC1 hB1 hb1
      cases wn
      · have hfin : R = (true, (k : Int), day, hs) := by rw [HRK.out, HWN.out]; rfl
        have HF := Lib.hid hfin
        clear hfin
        go_wp2
        go_ret2
        exact ⟨v, by rw [HF.out]; rfl, by rw [HF.out]; exact HC1.out, HBW.out.trans (HB1.out.mono (by omega))⟩
      have hR2 : R = if stepB secs k day hs ⟨mn, md, mk, mS, mf, mt, ma⟩ then repl secs (wantDay dd) (ms.drop (k + 1)) (k + 1) md (mvH hs ⟨mn, md, mk, mS, mf, mt, ma⟩) else (false, (k : Int), day, hs) := by rw [HRK.out, HWN.out]; rfl
      have HR2 := Lib.hid hR2
      clear hR2
      by_cases hnum : mn = (k : Int) + 1
      rotate_left
      · have hfin : R = (false, (k : Int), day, hs) := by
          rw [HR2.out, if_neg]
          intro q
          exact hnum (stepB_iff.1 q).1
        have HF := Lib.hid hfin
        have n1 : (mn != (k : Int) + 1) = true := by simpa using hnum
        have n2 : (mn == (k : Int) + 1) = false := by simpa using hnum
        clear hfin
        go_wp2
        go_quiet (fail)
        go_wp2
        go_ret2
        exact ⟨v, by rw [HF.out]; rfl, by rw [HF.out]; exact HC1.out.below (below_drewZ brefl _), below_drewZ (HBW.out.trans (HB1.out.mono (by omega))) _⟩
      subst hnum
      cases hkd : inB mk 1 3
      · have hfin : R = (false, (k : Int), day, hs) := by
          rw [HR2.out, if_neg]
          intro q
          have q2 := (stepB_iff.1 q).2.1
          rw [inB_not] at hkd
          exact hkd q2
        have HF := Lib.hid hfin
        clear hfin
        go_wp2
        go_quiet ((go_at_call 226; refine (amongR_any _ _ _ _).mono ?_; rw [hkd]; exact fun _ _ hh => ⟨hh.1, _, hh.2.symm⟩))
        go_wp2
        go_ret2
        exact ⟨v, by rw [HF.out]; rfl, by rw [HF.out]; exact HC1.out.below (below_drewZ brefl _), below_drewZ (HBW.out.trans (HB1.out.mono (by omega))) _⟩
      obtain ⟨E, hE⟩ : ∃ E, mvE secs hs day ⟨(k : Int) + 1, md, mk, mS, mf, mt, ma⟩ = E := ⟨_, rfl⟩
      obtain ⟨H2, hH2⟩ : ∃ H2, mvH hs ⟨(k : Int) + 1, md, mk, mS, mf, mt, ma⟩ = H2 := ⟨_, rfl⟩
      have hD : ∀ W, CkIn (w.heap.size + 1) W secs hs k day (.slice a0 n0 c0) v → _ := fun W hC => do_any (w.heap.size + 1) secs hs k day (.slice a0 n0 c0) v ((k : Int) + 1) md mk mS mf mt ma W hC hlen HOK.out (by omega) (by omega) (by omega) HSEC.out
      rw [hE, hH2] at hD
      have HD := Lib.hid hD
      have HE := Lib.hid hE
      have HH2 := Lib.hid hH2
      clear hE hH2 hD
      by_cases hE0 : E = 0
      · subst hE0
        have hst : stepB secs k day hs ⟨(k : Int) + 1, md, mk, mS, mf, mt, ma⟩ = true := by unfold stepB; rw [HE.out, hkd]; simp
        have hRn : R = repl secs (wantDay dd) (ms.drop (k + 1)) (k + 1) md H2 := by rw [HR2.out, if_pos hst, HH2.out]
        have HRN := Lib.hid hRn
        have hok2 : HsOk H2 := by rw [← HH2.out]; exact mvH_ok HOK.out (mvOk_iff.1 HE.out)
        have hl2 : H2.length ≤ 2 * (k + 1) := by rw [← HH2.out]; have := mvH_len hs ⟨(k : Int) + 1, md, mk, mS, mf, mt, ma⟩; omega
        have HOK2 := Lib.hid hok2
        have hwk : IntKind.i64.wrap ((k : Int) + 1) = (k : Int) + 1 := IntWalk.i64_in _ (by omega)
        clear hRn hok2 hst
        go_wp2
        go_region_with (first | (go_at_call 226; refine (amongR_any _ _ _ _).mono ?_; rw [hkd]; rintro e w2 ⟨rfl, rfl⟩) | (go_at_call 282; refine (HD.out _ ?_).mono ?_; (· exact HC1.out.below (bdr brefl)); rintro e w2 (⟨h1, -, -⟩ | ⟨-, rfl, ⟨v', hC2⟩, hb2⟩); (· exact absurd rfl h1); have HC2 := Lib.hid hC2; clear hC2))
        all_goals
          go_wp2
          go_roundw
          case rel => exact ⟨k + 1, md, H2, v', by omega, by go_num, by rw [show ((k + 1 : Nat) : Int) = (k : Int) + 1 by omega]; exact HC2.out, HOK2.out, hl2, by rw [show ((k + 1 : Nat) : Int) = (k : Int) + 1 by omega]; exact HRN.out, (bdr HB1.out).trans hb2⟩
          case measure => simp [intOf]; omega
      · have hst : ¬ stepB secs k day hs ⟨(k : Int) + 1, md, mk, mS, mf, mt, ma⟩ = true := by unfold stepB; rw [HE.out]; simp [hE0]
        have hfin : R = (false, (k : Int), day, hs) := by rw [HR2.out, if_neg hst]
        have HF := Lib.hid hfin
        have hE1 : (E != 0) = true := by simpa using hE0
        have hE2 : (E == 0) = false := by simpa using hE0
        have hwk : IntKind.i64.wrap ((k : Int) + 1) = (k : Int) + 1 := IntWalk.i64_in _ (by omega)
        clear hfin hst
        go_wp2
        go_region_with (first | (go_at_call 226; refine (amongR_any _ _ _ _).mono ?_; rw [hkd]; rintro e w2 ⟨rfl, rfl⟩) | (go_at_call 282; refine (HD.out _ ?_).mono ?_; (· exact HC1.out.below (bdr brefl)); rintro e w2 (⟨-, rfl, hb2⟩ | ⟨h1, -⟩); rotate_left; (· exact absurd h1 hE0)))
        all_goals
          go_wp2
          go_ret2
          exact ⟨v, by rw [HF.out]; rfl, by rw [HF.out]; exact (HC1.out.below (bdr brefl)).below hb2, (HBW.out.trans ((bdr HB1.out).mono (by omega))).trans (hb2.mono (by have := (bdr HB1.out).size; omega))⟩
    · have hkn : k = n := by omega
      subst hkn
      have hfin : R = (true, (k : Int), day, hs) := by rw [hRk, drop_all (by have := HN.out; omega)]; rfl
      have HF := Lib.hid hfin
      clear hfin hRk
      go_wp2
      go_ret2
      exact ⟨v, by rw [HF.out]; rfl, by rw [HF.out]; exact HC.out, HBr.out⟩
end Go.Proofs.YthjaofgdickkaaaGreat
