/- register: Equal of holdings, Check. -/
import Derived.Test.YthjaofgdickkaaaGreatRegH
import Derived.Test.YthjaofgdickkaaaGreatUp
namespace Go.Proofs.YthjaofgdickkaaaGreat
open Go.RowKit
set_option linter.unusedVariables false
set_option linter.unusedSimpArgs false

/-- a register that lies in w -/
structure RgIn (P : Nat → Prop) (w : World) (vs vh vm : Value) (R : Reg) : Prop where
  S : Sl 7 encSec P w vs R.secs
  H : Sl 3 encHold P w vh R.hs
  M : Sl 7 encMv P w vm R.ms
theorem RgIn.below {P : Nat → Prop} {w w' : World} {vs vh vm : Value} {R : Reg} (h : RgIn P w vs vh vm R) (hb : Below w.heap.size w w') : RgIn P w' vs vh vm R := ⟨h.S.below hb, h.H.below hb, h.M.below hb⟩
theorem RgIn.mono {P Q : Nat → Prop} {w : World} {vs vh vm : Value} {R : Reg} (h : RgIn P w vs vh vm R) (hq : ∀ b, P b → b < w.heap.size → Q b) : RgIn Q w vs vh vm R := ⟨h.S.mono hq, h.H.mono hq, h.M.mono hq⟩
theorem RgIn.grown {P : Nat → Prop} {w w' : World} {vs vh vm : Value} {R : Reg} {x : Nat} (h : RgIn P w vs vh vm R) (hg : w.grownBy w' (some x)) (hp : ∀ b, P b → b ≠ x) : RgIn P w' vs vh vm R := ⟨h.S.grown hg hp, h.H.grown hg hp, h.M.grown hg hp⟩
theorem RgIn.any {P : Nat → Prop} {w : World} {vs vh vm : Value} {R : Reg} (h : RgIn P w vs vh vm R) : RgIn (fun _ => True) w vs vh vm R := h.mono fun _ _ _ => trivial
set_option maxHeartbeats 2000000 in
theorem eqHs_any (P : Nat → Prop) (v v' : Value) (L M : List Hold) (w : World) (h : Sl 3 encHold P w v L) (h' : Sl 3 encHold P w v' M) (hl : L.length ≤ 1000000) :
    Calls Tryz.prog 235 #[v, v'] w fun e w' => e = .returned (.bool (eqHs L M)) ∧ ∃ nq, w' = w.drewN nq := by
  obtain ⟨ao, n, c, rfl, hn, hnc, hcm⟩ := h.shape
  obtain ⟨ao', n', c', rfl, hn', hnc', hcm'⟩ := h'.shape
  have hn1 : n ≤ 1000000 := by omega
  obtain ⟨r, hr⟩ : ∃ r, eqHs L M = r := ⟨_, rfl⟩
  rw [hr]
  have H := Lib.hid h
  have H' := Lib.hid h'
  have HN := Lib.hid hn
  have HN' := Lib.hid hn'
  have HR := Lib.hid hr
  clear h h' hn hn' hr hl
  by_cases he : n = n'
  rotate_left
  · have hf : r = false := by
      cases r
      · rfl
      · have := congrArg List.length (eqHs_iff.1 HR.out)
        rw [HN.out, HN'.out] at this
        exact absurd this he
    subst hf
    have he1 : ((n : Int) != (n' : Int)) = true := by simp; omega
    have he2 : ((n : Int) == (n' : Int)) = false := by simp; omega
    have he3 : ¬ (n : Int) = (n' : Int) := by omega
    go_enter Tryz.func235, Tryz.ntmps235
    go_wp2
    go_ret
    exact ⟨rfl, 0, rfl⟩
  subst he
  go_enter Tryz.func235, Tryz.ntmps235
  go_wp2
  go_loopw [13] (fun iv wr => ∃ k : Nat, k ≤ n ∧ iv = .int .i64 k ∧ r = eqHs (L.drop k) (M.drop k) ∧ ∃ nq, wr = w.drewN nq) (fun iv _ => n - (intOf iv).toNat)
  case atStart => exact ⟨0, by omega, rfl, by rw [List.drop_zero, List.drop_zero]; exact HR.out.symm, 0, rfl⟩
  case round =>
    obtain ⟨k, hk, rfl, hrk, nq, rfl⟩ := hrel
    by_cases hlt : k < n
    · obtain ⟨b, off, xs, xh, xa, rfl, -, -, hL, k0, k1, k2⟩ := H.out.hold hlt
      obtain ⟨b', off', ys, yh, ya, rfl, -, -, hM, j0, j1, j2⟩ := H'.out.hold hlt
      rw [drop_cons hL, drop_cons hM] at hrk
      simp only [eqHs] at hrk
      have HRK := Lib.hid hrk
      have hkn : (k : Int) < n := by omega
      clear hrk hL hM
      by_cases e1 : xs = ys
      · by_cases e2 : xh = yh
        · by_cases e3 : xa = ya
          · subst e1 e2 e3
            have hrel2 := Lib.hid (show r = eqHs (L.drop (k + 1)) (M.drop (k + 1)) by rw [HRK.out]; simp)
            go_wp2
            go_quiet (fail)
            go_wp2
            go_roundw
            case rel => exact ⟨k + 1, by omega, by go_num, hrel2.out, _, rfl⟩
            case measure => simp [intOf]; omega
          · have hf : r = false := by rw [HRK.out]; simp [e3]
            subst hf
            subst e1 e2
            have q1 : (xa == ya) = false := by simpa using e3
            go_wp2
            go_quiet (fail)
            go_wp2
            go_ret
            exact ⟨rfl, _, World.drewN_drewN ..⟩
        · have hf : r = false := by rw [HRK.out]; simp [e2]
          subst hf
          subst e1
          have q1 : (xh == yh) = false := by simpa using e2
          go_wp2
          go_quiet (fail)
          go_wp2
          go_ret
          exact ⟨rfl, _, World.drewN_drewN ..⟩
      · have hf : r = false := by rw [HRK.out]; simp [e1]
        subst hf
        have q1 : (xs == ys) = false := by simpa using e1
        go_wp2
        go_quiet (fail)
        go_wp2
        go_ret
        exact ⟨rfl, _, World.drewN_drewN ..⟩
    · have hf : r = true := by rw [hrk, drop_all (by have := HN.out; omega), drop_all (by have := HN'.out; omega)]; rfl
      subst hf
      clear hrk
      go_wp2
      go_ret
      exact ⟨rfl, _, rfl⟩
theorem drewAdd {w w' : World} {n : Nat} (h : ∃ m, w' = (w.drewN n).drewN m) : ∃ m, w' = w.drewN m := by
  obtain ⟨m, rfl⟩ := h
  exact ⟨_, World.drewN_drewN ..⟩
/-- the security in a slice, whole -/
theorem secsB_cons {p : Int} {s : Sec} {L : List Sec} : secsB p (s :: L) = (secOk s && (decide (p < s.id) && secsB s.id L)) := rfl
theorem secOk_id {s : Sec} (h : secOk s = true) : 1 ≤ s.id := (secB_iff.1 h).id0
set_option maxHeartbeats 4000000 in
set_option maxRecDepth 100000 in
theorem check_any (P : Nat → Prop) (vs vh vm : Value) (R : Reg) (w : World) (h : RgIn P w vs vh vm R) (hS : R.secs.length ≤ 1000000) (hH : R.hs.length ≤ 1000000) (hM : R.ms.length ≤ 1000000) :
    Calls Tryz.prog 137 #[.agg #[vs, vh, vm]] w fun e w' => e = .returned (.int .i64 (chkE R)) ∧ Below w.heap.size w w' := by
  obtain ⟨a0, n0, c0, rfl, hn0, hnc0, hcm0⟩ := h.S.shape
  obtain ⟨a1, n1, c1, rfl, hn1, hnc1, hcm1⟩ := h.H.shape
  obtain ⟨a2, n2, c2, rfl, hn2, hnc2, hcm2⟩ := h.M.shape
  obtain ⟨E, hE⟩ : ∃ E, chkE R = E := ⟨_, rfl⟩
  rw [hE]
  have HE := Lib.hid (show E = if 20 < n0 ∨ 400 < n2 then 3 else if secsB 0 R.secs then (if movesB R then 0 else 78) else 78 by rw [← hE, ← hn0, ← hn2]; rfl)
  have HH := Lib.hid h
  have HN0 := Lib.hid hn0
  have HN2 := Lib.hid hn2
  have HN1 := Lib.hid hn1
  have b0 : n0 ≤ 1000000 := by omega
  have b1 : n1 ≤ 1000000 := by omega
  have b2 : n2 ≤ 1000000 := by omega
  clear h hn0 hn1 hn2 hE hS hM
  by_cases h1 : 20 < n0
  · have hf : E = 3 := by rw [HE.out, if_pos (.inl h1)]
    subst hf
    go_enter Tryz.func137, Tryz.ntmps137
    go_wp2
    go_ret
    exact ⟨rfl, bal brefl _⟩
  by_cases h2 : 400 < n2
  · have hf : E = 3 := by rw [HE.out, if_pos (.inr h2)]
    subst hf
    go_enter Tryz.func137, Tryz.ntmps137
    go_wp2
    go_ret
    exact ⟨rfl, bal brefl _⟩
  have HE2 := Lib.hid (show E = if secsB 0 R.secs then (if movesB R then 0 else 78) else 78 by rw [HE.out, if_neg (by omega)])
  clear HE
  go_enter Tryz.func137, Tryz.ntmps137
  go_wp2
  obtain ⟨W, hW⟩ : ∃ W, W = w.alloc (.cells #[.slice a0 n0 c0, .slice a1 n1 c1, .slice a2 n2 c2] 31) := ⟨_, rfl⟩
  have hbW : Below w.heap.size w W := by rw [hW]; exact bal brefl _
  have zW : W.heap.size = w.heap.size + 1 := by rw [hW]; simp
  have r0 : W.cell? ⟨w.heap.size, 0, none⟩ = some (.slice a0 n0 c0) := by rw [hW, World.cell?_alloc_at _ _ _ _ rfl]; rfl
  have r1 : W.cell? ⟨w.heap.size, 1, none⟩ = some (.slice a1 n1 c1) := by rw [hW, World.cell?_alloc_at _ _ _ _ rfl]; rfl
  have r2 : W.cell? ⟨w.heap.size, 2, none⟩ = some (.slice a2 n2 c2) := by rw [hW, World.cell?_alloc_at _ _ _ _ rfl]; rfl
  have R0 := Lib.hid r0
  have R1 := Lib.hid r1
  have R2 := Lib.hid r2
  have HBW := Lib.hid hbW
  have HWW := Lib.hid hW
  clear r0 r1 r2 hbW hW
  go_loopw [20] (fun iv wr => ∃ (k : Nat) (p : Int), k ≤ n0 ∧ iv = .int .i64 k ∧ ((k = 0 ∧ p = 0) ∨ ∃ s, 0 < k ∧ R.secs[k - 1]? = some s ∧ p = s.id) ∧ secsB 0 R.secs = secsB p (R.secs.drop k) ∧ (∀ s ∈ R.secs.take k, secOk s = true) ∧ Below W.heap.size W wr) (fun iv _ => n0 - (intOf iv).toNat)
  case atStart => exact ⟨0, 0, by omega, rfl, .inl ⟨rfl, rfl⟩, by rw [List.drop_zero], by simp, by rw [HWW.out]; exact Below.refl _ _⟩
  case round =>
    obtain ⟨k, p, hk, rfl, hp, hrk, hall, hbr⟩ := hrel
    have zr := hbr.size
    rw [zW] at zr
    have hBr : Below w.heap.size w wr := HBW.out.trans (hbr.mono (by omega))
    have r0 := keepB hbr R0.out
    have r1 := keepB hbr R1.out
    have r2 := keepB hbr R2.out
    have HBR := Lib.hid hbr
    have HBr := Lib.hid hBr
    have HRG := Lib.hid (HH.out.below hBr)
    have HRK := Lib.hid hrk
    have HALL := Lib.hid hall
    have HP := Lib.hid hp
    clear hbr hBr hrk hall hp
    by_cases hlt : k < n0
    · obtain ⟨b, off, sid, sun, sis, sma, sra, sev, six, rfl, -, hb', hL, k0, k1, k2, k3, k4, k5, k6⟩ := HRG.out.S.sec hlt
      have hrk := HRK.out
      rw [drop_cons hL, secsB_cons] at hrk
      have HRK2 := Lib.hid hrk
      have HLk := Lib.hid hL
      clear hrk hL
      obtain ⟨ok, hok⟩ : ∃ b, secB sid sun sis sma sra sev = b := ⟨_, rfl⟩
      have HOK := Lib.hid hok
      clear hok
      have s0 : (wr.alloc (.cells #[.int .i64 sid, .int .i64 sun, .int .i64 sis, .int .i64 sma, .int .i64 sra, .int .i64 sev, .bool six] 26)).cell? ⟨wr.heap.size, 0, none⟩ = some (.int .i64 sid) := (World.cell?_alloc_at _ _ _ _ rfl).trans rfl
      have s1 : (wr.alloc (.cells #[.int .i64 sid, .int .i64 sun, .int .i64 sis, .int .i64 sma, .int .i64 sra, .int .i64 sev, .bool six] 26)).cell? ⟨wr.heap.size, 1, none⟩ = some (.int .i64 sun) := (World.cell?_alloc_at _ _ _ _ rfl).trans rfl
      have s2 : (wr.alloc (.cells #[.int .i64 sid, .int .i64 sun, .int .i64 sis, .int .i64 sma, .int .i64 sra, .int .i64 sev, .bool six] 26)).cell? ⟨wr.heap.size, 2, none⟩ = some (.int .i64 sis) := (World.cell?_alloc_at _ _ _ _ rfl).trans rfl
      have s3 : (wr.alloc (.cells #[.int .i64 sid, .int .i64 sun, .int .i64 sis, .int .i64 sma, .int .i64 sra, .int .i64 sev, .bool six] 26)).cell? ⟨wr.heap.size, 3, none⟩ = some (.int .i64 sma) := (World.cell?_alloc_at _ _ _ _ rfl).trans rfl
      have s4 : (wr.alloc (.cells #[.int .i64 sid, .int .i64 sun, .int .i64 sis, .int .i64 sma, .int .i64 sra, .int .i64 sev, .bool six] 26)).cell? ⟨wr.heap.size, 4, none⟩ = some (.int .i64 sra) := (World.cell?_alloc_at _ _ _ _ rfl).trans rfl
      have s5 : (wr.alloc (.cells #[.int .i64 sid, .int .i64 sun, .int .i64 sis, .int .i64 sma, .int .i64 sra, .int .i64 sev, .bool six] 26)).cell? ⟨wr.heap.size, 5, none⟩ = some (.int .i64 sev) := (World.cell?_alloc_at _ _ _ _ rfl).trans rfl
      have s6 : (wr.alloc (.cells #[.int .i64 sid, .int .i64 sun, .int .i64 sis, .int .i64 sma, .int .i64 sra, .int .i64 sev, .bool six] 26)).cell? ⟨wr.heap.size, 6, none⟩ = some (.bool six) := (World.cell?_alloc_at _ _ _ _ rfl).trans rfl
      have u0 := up_cell s0
      have u1 := up_cell s1
      have u2 := up_cell s2
      have u3 := up_cell s3
      have u4' := up_cell s4
      have u5 := up_cell s5
      have u6 := up_cell s6
      clear s0 s1 s2 s3 s4 s5 s6
      cases ok
      · have hf : E = 78 := by rw [HE2.out, HRK2.out]; simp [secOk, HOK.out]
        subst hf
        go_wp2
        (refine wp_region_up (by kernel_rfl) (by kernel_rfl) ?_); (repeat (go_big_quiet_step ((go_at_call 126; refine (security_any _ _ _ _ _ _ _ _).mono ?_; rw [HOK.out]; exact fun _ _ hh => ⟨hh.1, ⟨_, bup (Subtype.property _) hh.2⟩, rfl⟩)))); (refine wpQuiet_nil ?_); (rintro w1 ⟨⟨_, hb1⟩, rfl⟩)

        go_wp2
        go_ret
        exact ⟨rfl, bup HBr.out ((bal brefl _).trans (hb1.mono (by simp)))⟩
      · have hid := secOk_id (s := ⟨sid, sun, sis, sma, sra, sev, six⟩) HOK.out
        simp only at hid
        rcases HP.out with ⟨hk0, hp0⟩ | ⟨s, hk0, hsp, hp0⟩
        · subst hp0
          have HK0 := Lib.hid hk0
          have hk1 : (k : Int) ≤ 0 := by omega
          clear hk0
          have hst := Lib.hid (show secsB 0 R.secs = secsB sid (R.secs.drop (k + 1)) by rw [HRK2.out]; simp only [secOk, HOK.out, Bool.true_and]; rw [decide_eq_true (by omega), Bool.true_and])
          have hal := Lib.hid (show ∀ s ∈ R.secs.take (k + 1), secOk s = true from fun s hs => by
            rw [take_snocZ HLk.out, HK0.out] at hs
            simp only [List.take_zero, List.nil_append, List.mem_singleton] at hs
            subst hs; exact HOK.out)
          have hgd : decide (0 < k) = false := by simp; omega
          go_wp2
          (refine wp_region_up (by kernel_rfl) (by kernel_rfl) ?_); (repeat (go_big_quiet_step ((go_at_call 126; refine (security_any _ _ _ _ _ _ _ _).mono ?_; rw [HOK.out]; exact fun _ _ hh => ⟨hh.1, ⟨_, bup (Subtype.property _) hh.2⟩, rfl⟩)))); (refine wpQuiet_nil ?_); (rintro w1 ⟨⟨_, hb1⟩, rfl⟩)
          go_wp2
          go_roundw
          case rel => exact ⟨k + 1, sid, by omega, by go_num, .inr ⟨⟨sid, sun, sis, sma, sra, sev, six⟩, by omega, by have := HLk.out; simpa using this, rfl⟩, hst.out, hal.out, (HBR.out.alloc (by omega) _).trans (hb1.mono (by simp; omega))⟩
          case measure => simp [intOf]; omega
        · obtain ⟨m, rfl⟩ : ∃ m, k = m + 1 := ⟨k - 1, by omega⟩
          simp only [Nat.add_sub_cancel] at hsp hp0
          obtain ⟨b2, off2, pid, pun, pis, pma, pra, pev, pix, he2, -, hb2, hL2, j0, j1, j2, j3, j4, j5, j6⟩ := HRG.out.S.sec (k := m) (by omega)
          cases he2
          rw [hsp] at hL2
          cases hL2
          simp only at hp0
          obtain rfl : p = pid := hp0
          have v0 := up_cell (keepA j0 (o := .cells #[.int .i64 sid, .int .i64 sun, .int .i64 sis, .int .i64 sma, .int .i64 sra, .int .i64 sev, .bool six] 26))
          have v1 := up_cell (keepA r0 (o := .cells #[.int .i64 sid, .int .i64 sun, .int .i64 sis, .int .i64 sma, .int .i64 sra, .int .i64 sev, .bool six] 26))
          have hw1 : IntKind.i64.wrap (((m + 1 : Nat) : Int) - 1) = m := (IntWalk.i64_in _ (by omega)).trans (by omega)
          have hw2 : IntKind.i64.wrap ((m : Int) + 1 - 1) = m := (IntWalk.i64_in _ (by omega)).trans (by omega)
          have hmn : (m : Int) < n0 := by omega
          have hgd : decide (((m : Int) + 1) > 0) = true := decide_eq_true (by omega)
          by_cases hlt2 : p < sid
          · have hst := Lib.hid (show secsB 0 R.secs = secsB sid (R.secs.drop (m + 1 + 1)) by rw [HRK2.out]; simp only [secOk, HOK.out, Bool.true_and]; rw [decide_eq_true hlt2, Bool.true_and])
            have hal := Lib.hid (show ∀ s ∈ R.secs.take (m + 1 + 1), secOk s = true from fun s hs => by
              rw [take_snocZ HLk.out] at hs
              rcases List.mem_append.1 hs with hs | hs
              · exact HALL.out s hs
              · simp only [List.mem_singleton] at hs
                subst hs; exact HOK.out)
            have hge : decide (sid ≤ p) = false := by simp; omega
            go_wp2
            (refine wp_region_up (by kernel_rfl) (by kernel_rfl) ?_); (repeat (go_big_quiet_step ((go_at_call 126; refine (security_any _ _ _ _ _ _ _ _).mono ?_; rw [HOK.out]; exact fun _ _ hh => ⟨hh.1, ⟨_, bup (Subtype.property _) hh.2⟩, rfl⟩)))); (refine wpQuiet_nil ?_); (rintro w1 ⟨⟨_, hb1⟩, rfl⟩)
            go_wp2
            go_roundw
            case rel => exact ⟨m + 1 + 1, sid, by omega, by go_num, .inr ⟨⟨sid, sun, sis, sma, sra, sev, six⟩, by omega, by have := HLk.out; simpa using this, rfl⟩, hst.out, hal.out, (HBR.out.alloc (by omega) _).trans (hb1.mono (by simp; omega))⟩
            case measure => simp [intOf]; omega
          · have hf : E = 78 := by rw [HE2.out, HRK2.out]; simp [secOk, HOK.out, hlt2]
            subst hf
            have hge : decide (sid ≤ p) = true := by simp; omega
            go_wp2
            (refine wp_region_up (by kernel_rfl) (by kernel_rfl) ?_); (repeat (go_big_quiet_step ((go_at_call 126; refine (security_any _ _ _ _ _ _ _ _).mono ?_; rw [HOK.out]; exact fun _ _ hh => ⟨hh.1, ⟨_, bup (Subtype.property _) hh.2⟩, rfl⟩)))); (refine wpQuiet_nil ?_); (rintro w1 ⟨⟨_, hb1⟩, rfl⟩)
            go_wp2
            go_ret
            exact ⟨rfl, bup HBr.out ((bal brefl _).trans (hb1.mono (by simp)))⟩
    · have hkn : k = n0 := by omega
      subst hkn
      have hsb : secsB 0 R.secs = true := by rw [HRK.out, drop_all (by have := HN0.out; omega)]; rfl
      have hsec : ∀ s ∈ R.secs, secOk s = true := by
        have q := HALL.out
        rw [take_all (by have := HN0.out; omega)] at q
        exact q
      have HE3 := Lib.hid (show E = if movesB R then 0 else 78 by rw [HE2.out, if_pos hsb])
      have hD := replay_all (.slice a0 k c0) (.slice a1 n1 c1) (.slice a2 n2 c2) R.secs R.ms wr HRG.out.any.S HRG.out.any.M (by have := HN0.out; omega) (by have := HN2.out; omega) ⟨_, _, _, rfl⟩ hsec
      obtain ⟨Q, hQ⟩ : ∃ Q, repl R.secs wantAll R.ms 0 0 [] = Q := ⟨_, rfl⟩
      have hQl := repl_len R.secs wantAll R.ms 0 0 []
      rw [hQ] at hD hQl
      have HD := Lib.hid hD
      have HQ := Lib.hid hQ
      have hQl2 : Q.2.2.2.length ≤ 1000000 := by have := HN2.out; simp only [List.length_nil] at hQl; omega
      have HQL := Lib.hid hQl2
      clear hsb hsec hD hQ hQl hQl2
      go_wp2_with fail
      refine HD.out.mono ?_
      rintro e w1 ⟨v', rfl, hC, hb1⟩
      have HC := Lib.hid hC
      have HB1 := Lib.hid hb1
      have t1 := keepB hb1 r1
      have hRG1 := Lib.hid (HRG.out.below hb1)
      have SLv := Lib.hid (Sl.own encHold_len hC.O rfl (fun _ _ => trivial) : Sl 3 encHold (fun _ => True) w1 v' Q.2.2.2)
      have d1 := hC.h1
      clear hC hb1
      have HE4 := Lib.hid (show E = if (Q.1 && eqHs Q.2.2.2 R.hs) then 0 else 78 by rw [HE3.out]; unfold movesB; rw [HQ.out])
      obtain ⟨q1, hq1⟩ : ∃ b, Q.1 = b := ⟨_, rfl⟩
      have HQ1 := Lib.hid hq1
      rw [hq1]
      clear hq1
      cases q1
      · have hf : E = 78 := by rw [HE4.out, HQ1.out]; rfl
        subst hf
        go_wp2
        go_quiet (fail)
        go_wp2
        go_ret
        exact ⟨rfl, below_drewZ (bup HBr.out HB1.out) _⟩
      · obtain ⟨q2, hq2⟩ : ∃ b, eqHs Q.2.2.2 R.hs = b := ⟨_, rfl⟩
        have HQ2 := Lib.hid hq2
        clear hq2
        cases q2
        · have hf : E = 78 := by rw [HE4.out, HQ1.out, HQ2.out]; rfl
          subst hf
          go_wp2
          go_quiet ((go_at_call 235; refine (eqHs_any (fun _ => True) _ _ Q.2.2.2 R.hs _ (SLv.out.drewN _) (hRG1.out.any.H.drewN _) HQL.out).mono ?_; rw [HQ2.out]; exact fun _ _ hh => ⟨hh.1, drewAdd hh.2⟩))
          go_wp2
          go_ret
          exact ⟨rfl, below_drewZ (bup HBr.out HB1.out) _⟩
        · have hf : E = 0 := by rw [HE4.out, HQ1.out, HQ2.out]; rfl
          subst hf
          go_wp2
          go_quiet ((go_at_call 235; refine (eqHs_any (fun _ => True) _ _ Q.2.2.2 R.hs _ (SLv.out.drewN _) (hRG1.out.any.H.drewN _) HQL.out).mono ?_; rw [HQ2.out]; exact fun _ _ hh => ⟨hh.1, drewAdd hh.2⟩))
          go_wp2
          go_ret
          exact ⟨rfl, below_drewZ (bup HBr.out HB1.out) _⟩
end Go.Proofs.YthjaofgdickkaaaGreat
