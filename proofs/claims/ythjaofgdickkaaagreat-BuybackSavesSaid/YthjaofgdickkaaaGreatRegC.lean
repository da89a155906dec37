/- The register's clerk: outstanding, strange, add. -/
import Derived.Test.YthjaofgdickkaaaGreatRegB
import Derived.Test.YthjaofgdickkaaaGreatInsH
namespace Go.Proofs.YthjaofgdickkaaaGreat
open Go.RowKit
set_option linter.unusedVariables false
set_option linter.unusedSimpArgs false

theorem outH_take_le {L : List Hold} (hp : ∀ x ∈ L, 0 < x.a) (s : Int) (k : Nat) : 0 ≤ outH (L.take k) s ∧ outH (L.take k) s ≤ outH L s := by
  have h1 := outH_nonneg (L := L.take k) (fun x hx => hp x (List.mem_of_mem_take hx)) s
  have h2 := outH_nonneg (L := L.drop k) (fun x hx => hp x (List.mem_of_mem_drop hx)) s
  have h3 := outH_append (L.take k) (L.drop k) s
  rw [List.take_append_drop] at h3
  omega
set_option maxHeartbeats 1000000 in
theorem outst_any (P : Nat → Prop) (cb : Nat) (v : Value) (L : List Hold) (s : Int) (w : World) (hv : w.cell? ⟨cb, 1, none⟩ = some v) (hS : Sl 3 encHold P w v L) (hok : HsOk L) (hlen : L.length ≤ 1000000) :
    Calls Tryz.prog 241 #[.pointer (some ⟨cb, 0, none⟩), .int .i64 s] w fun e w' => e = .returned (.int .i64 (outH L s)) ∧ Below w.heap.size w w' := by
  obtain ⟨ao, n, c, rfl, hn, hnc, hcm⟩ := hS.shape
  have hn1 : n ≤ 1000000 := by omega
  have HS := Lib.hid hS
  have HN := Lib.hid hn
  have HK := Lib.hid hok
  clear hS hn hlen hok
  go_enter Tryz.func241, Tryz.ntmps241
  go_wp2
  go_loopw [5, 13] (fun sv iv wr => ∃ k : Nat, k ≤ n ∧ iv = .int .i64 k ∧ sv = .int .i64 (outH (L.take k) s) ∧ Below w.heap.size w wr) (fun _ iv _ => n - (intOf iv).toNat)
  case atStart => exact ⟨0, by omega, rfl, rfl, brefl⟩
  case round =>
    obtain ⟨k, hk, rfl, rfl, hbr⟩ := hrel
    have zr := hbr.size
    obtain ⟨sb0, sb1⟩ := outH_take_le HK.out.pos s k
    have sb2 := HK.out.out s
    by_cases hlt : k < n
    · obtain ⟨b, off, vs, vh, va, rfl, -, hb', hL, k0, k1, k2⟩ := (HS.out.below hbr).hold hlt
      obtain ⟨tb0, tb1⟩ := outH_take_le HK.out.pos s (k + 1)
      rw [take_snocZ hL, outH_append] at tb0 tb1
      have HT := Lib.hid (take_snocZ hL)
      obtain ⟨S, hSs⟩ : ∃ S, outH (L.take k) s = S := ⟨_, rfl⟩
      rw [hSs] at sb0 sb1 tb0 tb1
      have HSS := Lib.hid hSs
      rw [hSs]
      simp only [outH, Int.add_zero] at tb0 tb1
      have hpos := Lib.hid (HK.out.pos _ (List.mem_of_getElem? hL))
      clear hL hSs
      by_cases hq : vs = s
      · rw [if_pos hq] at tb0 tb1
        have HR := Lib.hid (show outH (L.take (k + 1)) s = S + va by rw [HT.out, outH_append, HSS.out]; simp [outH, hq])
        subst hq
        go_wp2
        go_roundw
        case rel => exact ⟨k + 1, by omega, by go_num, by rw [HR.out], bal hbr _⟩
        case measure => simp [intOf]; omega
      · have HR := Lib.hid (show outH (L.take (k + 1)) s = S by rw [HT.out, outH_append, HSS.out]; simp [outH, hq])
        have hq' : (vs == s) = false := by simpa using hq
        go_wp2
        go_roundw
        case rel => exact ⟨k + 1, by omega, by go_num, by rw [HR.out], bal hbr _⟩
        case measure => simp [intOf]; omega
    · have hfin := Lib.hid (show outH (L.take k) s = outH L s by rw [take_all (by have := HN.out; omega)])
      rw [hfin.out]
      go_wp2
      go_ret
      exact ⟨rfl, hbr⟩
set_option maxHeartbeats 1000000 in
theorem strange_any (num day kind s f t a : Int) (w : World) :
    Calls Tryz.prog 320 #[.agg #[.int .i64 num, .int .i64 day, .int .i64 kind, .int .i64 s, .int .i64 f, .int .i64 t, .int .i64 a]] w fun e w' => e = .returned (.bool (strangeB ⟨num, day, kind, s, f, t, a⟩)) ∧ Below w.heap.size w w' := by
  obtain ⟨x, hx⟩ : ∃ x, inB f 1 1000 = x := ⟨_, rfl⟩
  obtain ⟨y, hy⟩ : ∃ y, inB t 1 1000 = y := ⟨_, rfl⟩
  have HX := Lib.hid hx
  have HY := Lib.hid hy
  obtain ⟨r, hr⟩ : ∃ r, strangeB ⟨num, day, kind, s, f, t, a⟩ = r := ⟨_, rfl⟩
  have hr' := hr
  unfold strangeB at hr'
  simp only [hx, hy] at hr'
  have HR := Lib.hid hr'
  rw [hr]
  clear hx hy hr hr'
  by_cases h1 : kind = 1
  · subst h1
    rw [if_pos rfl] at HR
    by_cases hf : f = 0
    · have hfb : (f != 0) = false := by simpa using hf
      rw [hfb] at HR
      subst hf
      cases y
      all_goals
        go_enter Tryz.func320, Tryz.ntmps320
        go_wp2
        go_quiet ((go_at_call 339; refine (regholder_any _ _).mono ?_; (first | rw [HX.out] | rw [HY.out]); exact fun _ _ hh => ⟨hh.1, _, hh.2.symm⟩))
        go_wp2
        go_ret
        exact ⟨ret_bool HR.out, below_drewZ (bal brefl _) _⟩
    · have hfb : (f != 0) = true := by simpa using hf
      have hfb' : (f == 0) = false := by simpa using hf
      rw [hfb] at HR
      go_enter Tryz.func320, Tryz.ntmps320
      go_wp2
      go_quiet ((go_at_call 339; refine (regholder_any _ _).mono ?_; (first | rw [HX.out] | rw [HY.out]); exact fun _ _ hh => ⟨hh.1, _, hh.2.symm⟩))
      go_wp2
      go_ret
      exact ⟨ret_bool HR.out, below_drewZ (bal brefl _) _⟩
  · have k1 : (kind == 1) = false := by simpa using h1
    rw [if_neg h1] at HR
    by_cases h2 : kind = 2
    · subst h2
      rw [if_pos rfl] at HR
      cases x
      · go_enter Tryz.func320, Tryz.ntmps320
        go_wp2
        go_quiet ((go_at_call 339; refine (regholder_any _ _).mono ?_; (first | rw [HX.out] | rw [HY.out]); exact fun _ _ hh => ⟨hh.1, _, hh.2.symm⟩))
        go_wp2
        go_ret
        exact ⟨ret_bool HR.out, below_drewZ (bal brefl _) _⟩
      · cases y
        · go_enter Tryz.func320, Tryz.ntmps320
          go_wp2
          go_quiet ((go_at_call 339; refine (regholder_any _ _).mono ?_; (first | rw [HX.out] | rw [HY.out]); exact fun _ _ hh => ⟨hh.1, _, hh.2.symm⟩))
          go_wp2
          go_ret
          exact ⟨ret_bool HR.out, below_drewZ (bal brefl _) _⟩
        · by_cases he : f = t
          · have he' : (f == t) = true := by simpa using he
            rw [he'] at HR
            go_enter Tryz.func320, Tryz.ntmps320
            go_wp2
            go_quiet ((go_at_call 339; refine (regholder_any _ _).mono ?_; (first | rw [HX.out] | rw [HY.out]); exact fun _ _ hh => ⟨hh.1, _, hh.2.symm⟩))
            go_wp2
            go_ret
            exact ⟨ret_bool HR.out, below_drewZ (bal brefl _) _⟩
          · have he' : (f == t) = false := by simpa using he
            rw [he'] at HR
            go_enter Tryz.func320, Tryz.ntmps320
            go_wp2
            go_quiet ((go_at_call 339; refine (regholder_any _ _).mono ?_; (first | rw [HX.out] | rw [HY.out]); exact fun _ _ hh => ⟨hh.1, _, hh.2.symm⟩))
            go_wp2
            go_ret
            exact ⟨ret_bool HR.out, below_drewZ (bal brefl _) _⟩
    · have k2 : (kind == 2) = false := by simpa using h2
      rw [if_neg h2] at HR
      cases x
      · go_enter Tryz.func320, Tryz.ntmps320
        go_wp2
        go_quiet ((go_at_call 339; refine (regholder_any _ _).mono ?_; (first | rw [HX.out] | rw [HY.out]); exact fun _ _ hh => ⟨hh.1, _, hh.2.symm⟩))
        go_wp2
        go_ret
        exact ⟨ret_bool HR.out, below_drewZ (bal brefl _) _⟩
      · by_cases he : t = 0
        · have he' : (t != 0) = false := by simpa using he
          rw [he'] at HR
          subst he
          go_enter Tryz.func320, Tryz.ntmps320
          go_wp2
          go_quiet ((go_at_call 339; refine (regholder_any _ _).mono ?_; (first | rw [HX.out] | rw [HY.out]); exact fun _ _ hh => ⟨hh.1, _, hh.2.symm⟩))
          go_wp2
          go_ret
          exact ⟨ret_bool HR.out, below_drewZ (bal brefl _) _⟩
        · have he' : (t != 0) = true := by simpa using he
          have he2 : (t == 0) = false := by simpa using he
          rw [he'] at HR
          go_enter Tryz.func320, Tryz.ntmps320
          go_wp2
          go_quiet ((go_at_call 339; refine (regholder_any _ _).mono ?_; (first | rw [HX.out] | rw [HY.out]); exact fun _ _ hh => ⟨hh.1, _, hh.2.symm⟩))
          go_wp2
          go_ret
          exact ⟨ret_bool HR.out, below_drewZ (bal brefl _) _⟩
end Go.Proofs.YthjaofgdickkaaaGreat
