/- the reference's register: Check. -/
import Derived.Test.YthjaofgdickkaaaGreatRefF
import Derived.Test.YthjaofgdickkaaaGreatR33Sec
namespace Go.Proofs.YthjaofgdickkaaaGreat
open Go.RowKit
set_option linter.unusedVariables false
set_option linter.unusedSimpArgs false
theorem repl_wd {secs : List Sec} : ∀ {ms : List Mv} {n d : Int} {hs : List Hold}, (∀ m ∈ ms, m.day ≤ 36000) → repl secs (wantDay 36000) ms n d hs = repl secs wantAll ms n d hs
  | [], _, _, _, _ => rfl
  | m :: ms, n, d, hs, h => by
    have hw : wantDay 36000 m = true := decide_eq_true (h m (List.mem_cons_self ..))
    simp only [repl]
    rw [if_pos hw, if_pos (show wantAll m = true from rfl), repl_wd (fun x hx => h x (List.mem_cons_of_mem _ hx))]
theorem repl_days {secs : List Sec} (hsec : ∀ s ∈ secs, secOk s = true) : ∀ {ms : List Mv} {n d : Int} {hs : List Hold}, (repl secs wantAll ms n d hs).1 = true → ∀ m ∈ ms, 0 ≤ m.day ∧ m.day ≤ 36000
  | [], _, _, _, _, m, hm => by simp at hm
  | x :: ms, n, d, hs, h, m, hm => by
    simp only [repl, wantAll, if_true] at h
    by_cases hs1 : stepB secs n d hs x = true
    · rw [if_pos hs1] at h
      rcases List.mem_cons.1 hm with rfl | hm
      · obtain ⟨s, hf, -, h1, h2⟩ := (stepB_iff.1 hs1).2.2.fi
        have hk := secB_iff.1 (hsec s (findS_mem hf).1)
        have i0 := hk.is0
        have i1 := hk.ma2
        split at h2 <;> omega
      · exact repl_days hsec h m hm
    · rw [if_neg hs1] at h
      cases h
theorem movesB_day {R : Reg} {m : Mv} (hsec : ∀ s ∈ R.secs, secOk s = true) (hm : m ∈ R.ms) (hd : m.day < 0 ∨ 36000 < m.day) : ¬ movesB R = true := by
  intro h
  unfold movesB at h
  rw [Bool.and_eq_true] at h
  have := repl_days hsec h.1 m hm
  omega
set_option maxHeartbeats 4000000 in
set_option maxRecDepth 100000 in
theorem fcheck_any (P : Nat → Prop) (vs vh vm : Value) (R : Reg) (w : World) (h : RgIn P w vs vh vm R) (hS : R.secs.length ≤ 1000000) (hH : R.hs.length ≤ 1000000) (hM : R.ms.length ≤ 1000000) :
    Calls Tryz.prog 111 #[.agg #[vs, vh, vm]] w fun e w' => e = .returned (.int .i64 (chkE R)) ∧ Below w.heap.size w w' := by
  obtain ⟨a0, n0, c0, rfl, hn0, hnc0, hcm0⟩ := h.S.shape
  obtain ⟨a1, n1, c1, rfl, hn1, hnc1, hcm1⟩ := h.H.shape
  obtain ⟨a2, n2, c2, rfl, hn2, hnc2, hcm2⟩ := h.M.shape
  obtain ⟨E, hE⟩ : ∃ E, chkE R = E := ⟨_, rfl⟩
  rw [hE]
  have HE := Lib.hid (show E = if 20 < n0 ∨ 400 < n2 then 3 else if secsB 0 R.secs then (if movesB R then 0 else 78) else 78 by rw [← hE, ← hn0, ← hn2]; rfl)
  have HH := Lib.hid h
  have HN0 := Lib.hid hn0
  have HN2 := Lib.hid hn2
  have HN1 := Lib.hid hn1
  have b0 : n0 ≤ 1000000 := by omega
  have b1 : n1 ≤ 1000000 := by omega
  have b2 : n2 ≤ 1000000 := by omega
  clear h hn0 hn1 hn2 hE hS hM
  by_cases h1 : 20 < n0
  · have hf : E = 3 := by rw [HE.out, if_pos (.inl h1)]
    subst hf
    go_enter Tryz.func111, Tryz.ntmps111
    go_wp2
    go_ret
    exact ⟨rfl, bal brefl _⟩
  by_cases h2 : 400 < n2
  · have hf : E = 3 := by rw [HE.out, if_pos (.inr h2)]
    subst hf
    go_enter Tryz.func111, Tryz.ntmps111
    go_wp2
    go_ret
    exact ⟨rfl, bal brefl _⟩
  have HE2 := Lib.hid (show E = if secsB 0 R.secs then (if movesB R then 0 else 78) else 78 by rw [HE.out, if_neg (by omega)])
  clear HE
  go_enter Tryz.func111, Tryz.ntmps111
  go_wp2
  obtain ⟨W, hW⟩ : ∃ W, W = w.alloc (.cells #[.slice a0 n0 c0, .slice a1 n1 c1, .slice a2 n2 c2] 31) := ⟨_, rfl⟩
  have hbW : Below w.heap.size w W := by rw [hW]; exact bal brefl _
  have zW : W.heap.size = w.heap.size + 1 := by rw [hW]; simp
  have r0 : W.cell? ⟨w.heap.size, 0, none⟩ = some (.slice a0 n0 c0) := by rw [hW, World.cell?_alloc_at _ _ _ _ rfl]; rfl
  have r1 : W.cell? ⟨w.heap.size, 1, none⟩ = some (.slice a1 n1 c1) := by rw [hW, World.cell?_alloc_at _ _ _ _ rfl]; rfl
  have r2 : W.cell? ⟨w.heap.size, 2, none⟩ = some (.slice a2 n2 c2) := by rw [hW, World.cell?_alloc_at _ _ _ _ rfl]; rfl
  have R0 := Lib.hid r0
  have R1 := Lib.hid r1
  have R2 := Lib.hid r2
  have HBW := Lib.hid hbW
  have HWW := Lib.hid hW
  clear r0 r1 r2 hbW hW
  go_loopw [22] (fun iv wr => ∃ (k : Nat) (p : Int), k ≤ n0 ∧ iv = .int .i64 k ∧ ((k = 0 ∧ p = 0) ∨ ∃ s, 0 < k ∧ R.secs[k - 1]? = some s ∧ p = s.id) ∧ secsB 0 R.secs = secsB p (R.secs.drop k) ∧ (∀ s ∈ R.secs.take k, secOk s = true) ∧ Below W.heap.size W wr) (fun iv _ => n0 - (intOf iv).toNat)
  case atStart => exact ⟨0, 0, by omega, rfl, .inl ⟨rfl, rfl⟩, by rw [List.drop_zero], by simp, by rw [HWW.out]; exact Below.refl _ _⟩
  case round =>
    obtain ⟨k, p, hk, rfl, hp, hrk, hall, hbr⟩ := hrel
    have zr := hbr.size
    rw [zW] at zr
    have hBr : Below w.heap.size w wr := HBW.out.trans (hbr.mono (by omega))
    have r0 := keepB hbr R0.out
    have r1 := keepB hbr R1.out
    have r2 := keepB hbr R2.out
    have HBR := Lib.hid hbr
    have HBr := Lib.hid hBr
    have HRG := Lib.hid (HH.out.below hBr)
    have HRK := Lib.hid hrk
    have HALL := Lib.hid hall
    have HP := Lib.hid hp
    clear hbr hBr hrk hall hp
    by_cases hlt : k < n0
    · obtain ⟨b, off, sid, sun, sis, sma, sra, sev, six, rfl, -, hb', hL, k0, k1, k2, k3, k4, k5, k6⟩ := HRG.out.S.sec hlt
      have hrk := HRK.out
      rw [drop_cons hL, secsB_cons] at hrk
      have HRK2 := Lib.hid hrk
      have HLk := Lib.hid hL
      clear hrk hL
      obtain ⟨ok, hok⟩ : ∃ b, secB sid sun sis sma sra sev = b := ⟨_, rfl⟩
      have HOK := Lib.hid hok
      clear hok
      have s0 : (wr.alloc (.cells #[.int .i64 sid, .int .i64 sun, .int .i64 sis, .int .i64 sma, .int .i64 sra, .int .i64 sev, .bool six] 26)).cell? ⟨wr.heap.size, 0, none⟩ = some (.int .i64 sid) := (World.cell?_alloc_at _ _ _ _ rfl).trans rfl
      have s1 : (wr.alloc (.cells #[.int .i64 sid, .int .i64 sun, .int .i64 sis, .int .i64 sma, .int .i64 sra, .int .i64 sev, .bool six] 26)).cell? ⟨wr.heap.size, 1, none⟩ = some (.int .i64 sun) := (World.cell?_alloc_at _ _ _ _ rfl).trans rfl
      have s2 : (wr.alloc (.cells #[.int .i64 sid, .int .i64 sun, .int .i64 sis, .int .i64 sma, .int .i64 sra, .int .i64 sev, .bool six] 26)).cell? ⟨wr.heap.size, 2, none⟩ = some (.int .i64 sis) := (World.cell?_alloc_at _ _ _ _ rfl).trans rfl
      have s3 : (wr.alloc (.cells #[.int .i64 sid, .int .i64 sun, .int .i64 sis, .int .i64 sma, .int .i64 sra, .int .i64 sev, .bool six] 26)).cell? ⟨wr.heap.size, 3, none⟩ = some (.int .i64 sma) := (World.cell?_alloc_at _ _ _ _ rfl).trans rfl
      have s4 : (wr.alloc (.cells #[.int .i64 sid, .int .i64 sun, .int .i64 sis, .int .i64 sma, .int .i64 sra, .int .i64 sev, .bool six] 26)).cell? ⟨wr.heap.size, 4, none⟩ = some (.int .i64 sra) := (World.cell?_alloc_at _ _ _ _ rfl).trans rfl
      have s5 : (wr.alloc (.cells #[.int .i64 sid, .int .i64 sun, .int .i64 sis, .int .i64 sma, .int .i64 sra, .int .i64 sev, .bool six] 26)).cell? ⟨wr.heap.size, 5, none⟩ = some (.int .i64 sev) := (World.cell?_alloc_at _ _ _ _ rfl).trans rfl
      have s6 : (wr.alloc (.cells #[.int .i64 sid, .int .i64 sun, .int .i64 sis, .int .i64 sma, .int .i64 sra, .int .i64 sev, .bool six] 26)).cell? ⟨wr.heap.size, 6, none⟩ = some (.bool six) := (World.cell?_alloc_at _ _ _ _ rfl).trans rfl
      have u0 := up_cell s0
      have u1 := up_cell s1
      have u2 := up_cell s2
      have u3 := up_cell s3
      have u4' := up_cell s4
      have u5 := up_cell s5
      have u6 := up_cell s6
      clear s0 s1 s2 s3 s4 s5 s6
      cases ok
      · have hf : E = 78 := by rw [HE2.out, HRK2.out]; simp [secOk, HOK.out]
        subst hf
        go_wp2
        (refine wp_region_up (by kernel_rfl) (by kernel_rfl) ?_); (repeat (go_big_quiet_step ((go_at_call 127; refine (r33sec_any _ _ _ _ _ _ _ _).mono ?_; rw [HOK.out]; exact fun _ _ hh => ⟨hh.1, ⟨_, bup (Subtype.property _) hh.2⟩, rfl⟩)))); (refine wpQuiet_nil ?_); (rintro w1 ⟨⟨_, hb1⟩, rfl⟩)

        go_wp2
        go_ret
        exact ⟨rfl, bup HBr.out ((bal brefl _).trans (hb1.mono (by simp)))⟩
      · have hid := secOk_id (s := ⟨sid, sun, sis, sma, sra, sev, six⟩) HOK.out
        simp only at hid
        rcases HP.out with ⟨hk0, hp0⟩ | ⟨s, hk0, hsp, hp0⟩
        · subst hp0
          have HK0 := Lib.hid hk0
          have hk1 : (k : Int) ≤ 0 := by omega
          clear hk0
          have hst := Lib.hid (show secsB 0 R.secs = secsB sid (R.secs.drop (k + 1)) by rw [HRK2.out]; simp only [secOk, HOK.out, Bool.true_and]; rw [decide_eq_true (by omega), Bool.true_and])
          have hal := Lib.hid (show ∀ s ∈ R.secs.take (k + 1), secOk s = true from fun s hs => by
            rw [take_snocZ HLk.out, HK0.out] at hs
            simp only [List.take_zero, List.nil_append, List.mem_singleton] at hs
            subst hs; exact HOK.out)
          have hgd : decide (0 < k) = false := by simp; omega
          go_wp2
          (refine wp_region_up (by kernel_rfl) (by kernel_rfl) ?_); (repeat (go_big_quiet_step ((go_at_call 127; refine (r33sec_any _ _ _ _ _ _ _ _).mono ?_; rw [HOK.out]; exact fun _ _ hh => ⟨hh.1, ⟨_, bup (Subtype.property _) hh.2⟩, rfl⟩)))); (refine wpQuiet_nil ?_); (rintro w1 ⟨⟨_, hb1⟩, rfl⟩)
          go_wp2
          go_roundw
          case rel => exact ⟨k + 1, sid, by omega, by go_num, .inr ⟨⟨sid, sun, sis, sma, sra, sev, six⟩, by omega, by have := HLk.out; simpa using this, rfl⟩, hst.out, hal.out, (HBR.out.alloc (by omega) _).trans (hb1.mono (by simp; omega))⟩
          case measure => simp [intOf]; omega
        · obtain ⟨m, rfl⟩ : ∃ m, k = m + 1 := ⟨k - 1, by omega⟩
          simp only [Nat.add_sub_cancel] at hsp hp0
          obtain ⟨b2, off2, pid, pun, pis, pma, pra, pev, pix, he2, -, hb2, hL2, j0, j1, j2, j3, j4, j5, j6⟩ := HRG.out.S.sec (k := m) (by omega)
          cases he2
          rw [hsp] at hL2
          cases hL2
          simp only at hp0
          obtain rfl : p = pid := hp0
          have v0 := up_cell (keepA j0 (o := .cells #[.int .i64 sid, .int .i64 sun, .int .i64 sis, .int .i64 sma, .int .i64 sra, .int .i64 sev, .bool six] 26))
          have v1 := up_cell (keepA r0 (o := .cells #[.int .i64 sid, .int .i64 sun, .int .i64 sis, .int .i64 sma, .int .i64 sra, .int .i64 sev, .bool six] 26))
          have hw1 : IntKind.i64.wrap (((m + 1 : Nat) : Int) - 1) = m := (IntWalk.i64_in _ (by omega)).trans (by omega)
          have hw2 : IntKind.i64.wrap ((m : Int) + 1 - 1) = m := (IntWalk.i64_in _ (by omega)).trans (by omega)
          have hmn : (m : Int) < n0 := by omega
          have hgd : decide (((m : Int) + 1) > 0) = true := decide_eq_true (by omega)
          by_cases hlt2 : p < sid
          · have hst := Lib.hid (show secsB 0 R.secs = secsB sid (R.secs.drop (m + 1 + 1)) by rw [HRK2.out]; simp only [secOk, HOK.out, Bool.true_and]; rw [decide_eq_true hlt2, Bool.true_and])
            have hal := Lib.hid (show ∀ s ∈ R.secs.take (m + 1 + 1), secOk s = true from fun s hs => by
              rw [take_snocZ HLk.out] at hs
              rcases List.mem_append.1 hs with hs | hs
              · exact HALL.out s hs
              · simp only [List.mem_singleton] at hs
                subst hs; exact HOK.out)
            have hge : decide (sid ≤ p) = false := by simp; omega
            go_wp2
            (refine wp_region_up (by kernel_rfl) (by kernel_rfl) ?_); (repeat (go_big_quiet_step ((go_at_call 127; refine (r33sec_any _ _ _ _ _ _ _ _).mono ?_; rw [HOK.out]; exact fun _ _ hh => ⟨hh.1, ⟨_, bup (Subtype.property _) hh.2⟩, rfl⟩)))); (refine wpQuiet_nil ?_); (rintro w1 ⟨⟨_, hb1⟩, rfl⟩)
            go_wp2
            go_roundw
            case rel => exact ⟨m + 1 + 1, sid, by omega, by go_num, .inr ⟨⟨sid, sun, sis, sma, sra, sev, six⟩, by omega, by have := HLk.out; simpa using this, rfl⟩, hst.out, hal.out, (HBR.out.alloc (by omega) _).trans (hb1.mono (by simp; omega))⟩
            case measure => simp [intOf]; omega
          · have hf : E = 78 := by rw [HE2.out, HRK2.out]; simp [secOk, HOK.out, hlt2]
            subst hf
            have hge : decide (sid ≤ p) = true := by simp; omega
            go_wp2
            (refine wp_region_up (by kernel_rfl) (by kernel_rfl) ?_); (repeat (go_big_quiet_step ((go_at_call 127; refine (r33sec_any _ _ _ _ _ _ _ _).mono ?_; rw [HOK.out]; exact fun _ _ hh => ⟨hh.1, ⟨_, bup (Subtype.property _) hh.2⟩, rfl⟩)))); (refine wpQuiet_nil ?_); (rintro w1 ⟨⟨_, hb1⟩, rfl⟩)
            go_wp2
            go_ret
            exact ⟨rfl, bup HBr.out ((bal brefl _).trans (hb1.mono (by simp)))⟩
    · have hkn : k = n0 := by omega
      subst hkn
      have hsb : secsB 0 R.secs = true := by rw [HRK.out, drop_all (by have := HN0.out; omega)]; rfl
      have hsec : ∀ s ∈ R.secs, secOk s = true := by
        have q := HALL.out
        rw [take_all (by have := HN0.out; omega)] at q
        exact q
      have HE3 := Lib.hid (show E = if movesB R then 0 else 78 by rw [HE2.out, if_pos hsb])
      have HSC := Lib.hid hsec
      have hl2 : n2 ≤ 400 := by omega
      clear hsb hsec
      go_wp2
      obtain ⟨W2, hW2⟩ : ∃ W2, W2 = wr := ⟨_, rfl⟩
      have HW2 := Lib.hid hW2
      go_loopw [50] (fun iv wr2 => ∃ j : Nat, j ≤ n2 ∧ iv = .int .i64 j ∧ (∀ m ∈ R.ms.take j, 0 ≤ m.day ∧ m.day ≤ 36000) ∧ Below W2.heap.size W2 wr2) (fun iv _ => n2 - (intOf iv).toNat)
      case atStart => exact ⟨0, by omega, rfl, by simp, by rw [HW2.out]; exact Below.refl _ _⟩
      case round =>
        obtain ⟨j, hj, rfl, hdays, hb2⟩ := hrel
        rw [hW2] at hb2
        have zr2 := hb2.size
        have r0' := keepB hb2 r0
        have r1' := keepB hb2 r1
        have r2' := keepB hb2 r2
        have HDY := Lib.hid hdays
        have HB2 := Lib.hid hb2
        clear hdays hb2 r0 r1 r2
        by_cases hlt2 : j < n2
        · obtain ⟨b2, off2, mn, md, mk, mS, mf, mt, ma, rfl, -, hb3, hL2, k0, k1, k2, k3, k4, k5, k6⟩ := (HRG.out.below HB2.out).M.mv hlt2
          have HT := Lib.hid (take_snocZ hL2)
          have HME := Lib.hid (List.mem_of_getElem? hL2)
          clear hL2
          by_cases g1 : md < 0
          · have hf := Lib.hid (show E = 78 by rw [HE3.out, if_neg (movesB_day HSC.out HME.out (by simp only; omega))])
            go_wp2
            go_ret
            exact ⟨by rw [hf.out]; rfl, bal (bup HBr.out HB2.out) _⟩
          have d1 : decide (md < 0) = false := by simpa using g1
          by_cases g2 : 36000 < md
          · have hf := Lib.hid (show E = 78 by rw [HE3.out, if_neg (movesB_day HSC.out HME.out (by simp only; omega))])
            go_wp2
            go_ret
            exact ⟨by rw [hf.out]; rfl, bal (bup HBr.out HB2.out) _⟩
          have d2 : decide (36000 < md) = false := by simpa using g2
          go_wp2
          go_roundw
          case rel =>
            refine ⟨j + 1, by omega, by go_num, ?_, by rw [HW2.out]; exact bal HB2.out _⟩
            intro m hm
            rw [HT.out] at hm
            rcases List.mem_append.1 hm with hm | hm
            · exact HDY.out m hm
            · simp only [List.mem_singleton] at hm
              subst hm
              simp only
              omega
          case measure => simp [intOf]; omega
        · have hjn : j = n2 := by omega
          subst hjn
          have hall : ∀ m ∈ R.ms, m.day ≤ 36000 := by
            have q := HDY.out
            rw [take_all (by have := HN2.out; omega)] at q
            exact fun m hm => (q m hm).2
          have hD := fun W' (hW' : Below w.heap.size w W') => funtil_any P _ _ _ R 36000 W' (HH.out.below hW') (by have := HN0.out; omega) (by have := HN2.out; omega) HSC.out
          rw [repl_wd hall] at hD
          obtain ⟨Q, hQ⟩ : ∃ Q, repl R.secs wantAll R.ms 0 0 [] = Q := ⟨_, rfl⟩
          have hQl := repl_len R.secs wantAll R.ms 0 0 []
          rw [hQ] at hD hQl
          have HD := Lib.hid hD
          have HQ := Lib.hid hQ
          have hQl2 : Q.2.2.2.length ≤ 1000000 := by have := HN2.out; simp only [List.length_nil] at hQl; omega
          have HQL := Lib.hid hQl2
          clear hall hD hQ hQl hQl2
          have HBX := Lib.hid (bup HBr.out HB2.out)
          have HE4 := Lib.hid (show E = if (Q.1 && eqHs Q.2.2.2 R.hs) then 0 else 78 by rw [HE3.out]; unfold movesB; rw [HQ.out])
          go_wp2_with fail
          refine (HD.out _ HBX.out).mono ?_
          rintro e w1 ⟨v', rfl, hyes, hno, hb1⟩
          have t1 := keepB hb1 r1'
          have HB1 := Lib.hid (bup HBX.out hb1)
          clear hb1
          obtain ⟨q1, hq1⟩ : ∃ b, Q.1 = b := ⟨_, rfl⟩
          have HQ1 := Lib.hid hq1
          rw [hq1] at hyes hno ⊢
          clear hq1
          cases q1
          · have hf := Lib.hid (show E = 78 by rw [HE4.out, HQ1.out]; rfl)
            obtain rfl := hno rfl
            clear hyes hno
            go_wp2
            go_ret
            exact ⟨by rw [hf.out]; rfl, HB1.out⟩
          · obtain ⟨q2, hq2⟩ : ∃ b, eqHs Q.2.2.2 R.hs = b := ⟨_, rfl⟩
            have HQ2 := Lib.hid hq2
            have hS' := hyes rfl
            obtain ⟨lb, ln, lc, rfl, -, -, -⟩ := hS'.shape
            have HSV := Lib.hid hS'
            clear hq2 hyes hno hS'
            have heq := fhold_any _ _ _ _ Q.2.2.2 R.hs w1 HSV.out (HH.out.below HB1.out).H HQL.out
            rw [HQ2.out] at heq
            have HEQ := Lib.hid heq
            clear heq
            cases q2
            · have hf := Lib.hid (show E = 78 by rw [HE4.out, HQ1.out, HQ2.out]; rfl)
              go_wp2_with fail
              refine HEQ.out.mono ?_
              rintro e w2 ⟨rfl, nq, rfl⟩
              go_wp2
              go_ret
              exact ⟨by rw [hf.out]; rfl, below_drewZ HB1.out _⟩
            · have hf := Lib.hid (show E = 0 by rw [HE4.out, HQ1.out, HQ2.out]; rfl)
              go_wp2_with fail
              refine HEQ.out.mono ?_
              rintro e w2 ⟨rfl, nq, rfl⟩
              go_wp2
              go_ret
              exact ⟨by rw [hf.out]; rfl, below_drewZ HB1.out _⟩
end Go.Proofs.YthjaofgdickkaaaGreat
