/- The register's clerk: do, where the security is there. Printed by wip/gen/regf.py. -/
import Derived.Test.YthjaofgdickkaaaGreatRegE
import Derived.Test.YthjaofgdickkaaaGreatRegG
import Derived.Deep.CutBlock
namespace Go.Proofs.YthjaofgdickkaaaGreat
open Go.RowKit
set_option linter.unusedVariables false
set_option linter.unusedSimpArgs false

theorem Below.ofBox {w wx : World} {M : Array Value} {T : TypeId} (hb : Below (w.heap.size + 1) (w.alloc (.cells M T)) wx) : Below w.heap.size w wx := (bal brefl _).trans (hb.mono (by omega))
theorem boxHeap {w wx : World} {M : Array Value} {T : TypeId} (hb : Below (w.heap.size + 1) (w.alloc (.cells M T)) wx) : wx.heap[w.heap.size]? = some (.cells M T (0, 0)) := (hb.block _ (by omega)).trans (heap_alloc_new _ _)
theorem cell_heap {w : World} {b i : Nat} {M : Array Value} {T : TypeId} {v : Value} (h : w.heap[b]? = some (.cells M T (0, 0))) (hv : M[i]? = some v) : w.cell? ⟨b, i, none⟩ = some v := by
  rw [cell_of_row w b i _ T (0, 0) h]; exact hv
/-- the clerk behind a move -/
theorem do_ok {cb : Nat} {secs : List Sec} {hs L6 L7 : List Hold} {num day md : Int} {vs v v6 v7 : Value} {w w5 w6 w7 W : World} (C : CkIn cb w5 secs hs num day vs v) (hcb : cb < w.heap.size) (hB : Below w.heap.size w w5) (A6 : AddedV cb v6 L6 w5 w6) (A7 : AddedV cb v7 L7 w6 w7)
    (hg : w7.grownBy W (some cb)) (q0 : W.cell? ⟨cb, 0, none⟩ = w7.cell? ⟨cb, 0, none⟩) (q1 : W.cell? ⟨cb, 1, none⟩ = w7.cell? ⟨cb, 1, none⟩) (q2 : W.cell? ⟨cb, 2, none⟩ = some (.int .i64 (num + 1))) (q3 : W.cell? ⟨cb, 3, none⟩ = some (.int .i64 md)) (qf : ∀ o, W.frozen? ⟨cb, o, none⟩ = w7.frozen? ⟨cb, o, none⟩) :
    (∃ v', CkIn cb W secs L7 (num + 1) md vs v') ∧ Below cb w W := by
  obtain ⟨a1, a2, a3, a4, a5, a6⟩ := A6
  obtain ⟨b1, b2, b3, b4, b5, b6⟩ := A7
  have hb57 : Below cb w5 w7 := a5.trans b5
  have hbW : Below cb w5 W := hb57.trans ⟨hg.os, hg.tape, hg.output, hg.size, fun k hk => by
    rcases Nat.lt_or_ge k w7.heap.size with h | h
    · exact hg.block k h (by simp; omega)
    · have : cb < w7.heap.size := Nat.lt_of_lt_of_le hcb (Nat.le_trans hB.size hb57.size)
      omega⟩
  refine ⟨⟨v7, ?_, q1.trans b1, q2, q3, ?_, ?_, ?_, C.S.belowB hbW (fun b hb => hb), ?_⟩, (hB.mono (by omega)).trans hbW⟩
  · rw [q0, b3 0 (by omega), a3 0 (by omega)]; exact C.h0
  · rw [qf, b4, a4]; exact C.f1
  · rw [qf, b4, a4]; exact C.f2
  · rw [qf, b4, a4]; exact C.f3
  · refine b2.kept hg ?_
    cases hb : v7.ownBlock with
    | none => exact .inl rfl
    | some k => exact .inr (by have := (b2.lt k hb).1; simp; omega)
theorem do_grown (w : World) (cb : Nat) (x y : Value) : w.grownBy ((w.setCell ⟨cb, 2, none⟩ x).setCell ⟨cb, 3, none⟩ y).drew (some cb) := by
  have q := grownBy_transZ (grownBy_setCellZ w cb 2 x) (grownBy_setCellZ _ cb 3 y)
  exact ⟨q.os, q.tape, q.output, q.size, q.block⟩
theorem boxUp {n : Nat} {B w1 w2 : World} (h : Below (n + 1) B w1) (h1 : Below w1.heap.size w1 w2) (hn : n + 1 ≤ w1.heap.size) : Below (n + 1) B w2 := h.trans (h1.mono hn)
set_option maxHeartbeats 4000000 in
set_option maxRecDepth 100000 in
theorem do_some (cb : Nat) (secs : List Sec) (hs : List Hold) (num day : Int) (vs v : Value) (mn md mk ms mf mt ma : Int) (w : World) (C : CkIn cb w secs hs num day vs v) (hlen : secs.length ≤ 1000000) (hok : HsOk hs) (hhl : hs.length ≤ 90000)
    (hnum : 0 ≤ num) (hnum2 : num ≤ 1000000) (sun sis sma sra sev : Int) (six : Bool) (hf : findS secs ms = some ⟨ms, sun, sis, sma, sra, sev, six⟩) (hun : 1 ≤ sun) (hun2 : sun ≤ 1000000000) (lv : Int) (hlv : (mk = 3 ∧ lv = 36000) ∨ (mk ≠ 3 ∧ lv = sma)) (mx : Int) (hmx : mx = max day sis) :
    Calls Tryz.prog 282 #[.pointer (some ⟨cb, 0, none⟩), .agg #[.int .i64 mn, .int .i64 md, .int .i64 mk, .int .i64 ms, .int .i64 mf, .int .i64 mt, .int .i64 ma]] w (DoPost cb secs vs num md (mvE secs hs day ⟨mn, md, mk, ms, mf, mt, ma⟩) (mvH hs ⟨mn, md, mk, ms, mf, mt, ma⟩) w) := by
  have h0 := C.h0
  have hcl := C.lt
  have H := Lib.hid (fun W hS => find_yes (· < cb) vs secs ms _ _ _ _ _ _ _ W hS hlen hf)
  have HS := Lib.hid (C.S.alloc (.cells #[.int .i64 mn, .int .i64 md, .int .i64 mk, .int .i64 ms, .int .i64 mf, .int .i64 mt, .int .i64 ma] 174))
  have HC := Lib.hid C
  have HOK := Lib.hid hok
  obtain ⟨E, hE⟩ : ∃ E, mvE secs hs day ⟨mn, md, mk, ms, mf, mt, ma⟩ = E := ⟨_, rfl⟩
  obtain ⟨H', hH'⟩ : ∃ H', mvH hs ⟨mn, md, mk, ms, mf, mt, ma⟩ = H' := ⟨_, rfl⟩
  rw [hE, hH']
  obtain ⟨p1, hp1⟩ : ∃ p, inB md mx lv = p := ⟨_, rfl⟩
  obtain ⟨p3, hp3⟩ : ∃ p, inB ma 0 1000000000000 = p := ⟨_, rfl⟩
  obtain ⟨p4, hp4⟩ : ∃ p, strangeB ⟨mn, md, mk, ms, mf, mt, ma⟩ = p := ⟨_, rfl⟩
  have hE2 : E = if p1 then (if 0 < ma ∧ ma ≤ 1000000000000 ∧ ma % sun = 0 then (if p4 then 6 else if mf ≠ 0 ∧ heldH hs ms mf < ma then 77 else if mf = 0 ∧ 1000000000000 < outH hs ms + ma then 2 else 0) else 79) else 8 := by
    rw [← hE, ← hp1, ← hp4]
    unfold mvE
    simp only [hf]
    unfold mvE1
    simp only
    have e1 : (if mk = 3 then (36000 : Int) else sma) = lv := by
      rcases hlv with ⟨q1, q2⟩ | ⟨q1, q2⟩
      · rw [if_pos q1, q2]
      · rw [if_neg q1, q2]
    rw [e1, ← hmx]
  have HE := Lib.hid hE2
  have HH := Lib.hid hH'
  have HP1 := Lib.hid hp1
  have HP3 := Lib.hid hp3
  have HP4 := Lib.hid hp4
  have HMX := Lib.hid hmx
  have HLV := Lib.hid hlv
  clear C hf hok hE hH' hE2 hp1 hp3 hp4 hmx hlv
  have h0' : (w.alloc (.cells #[.int .i64 mn, .int .i64 md, .int .i64 mk, .int .i64 ms, .int .i64 mf, .int .i64 mt, .int .i64 ma] 174)).cell? ⟨cb, 0, none⟩ = some vs := (World.cell?_alloc_past _ _ _ hcl).trans h0
  have hne : ¬ cb = w.heap.size + 1 := by omega
  go_enter Tryz.func282, Tryz.ntmps282
  go_upto_region 1 with fail
  go_cut [5, 6] (fun s5 s6 wx => s6 = .bool true ∧ FoundAt w #[.int .i64 mn, .int .i64 md, .int .i64 mk, .int .i64 ms, .int .i64 mf, .int .i64 mt, .int .i64 ma] ⟨ms, sun, sis, sma, sra, sev, six⟩ s5 wx)
  case first =>
    go_region_with (first | (go_at_call 231; refine (H.out _ ?_).mono ?_; (· first | exact HS.out.drewN 1 | exact (HS.out.alloc _).drewN 1); rintro e w1 ⟨rfl, hb1⟩; obtain ⟨hc1, hf1⟩ := bcell hb1; have hz1 := hb1.size; simp at hz1))
    all_goals (go_wp2_with fail; go_meet)
    all_goals first
      | exact ⟨rfl, found_a (s := ⟨ms, sun, sis, sma, sra, sev, six⟩) hb1⟩
      | exact ⟨rfl, found_b (s := ⟨ms, sun, sis, sma, sra, sev, six⟩) rfl hb1⟩
  case rest =>
    obtain ⟨rfl, sb, rfl, hsb, s0, s1, s2, s3, hbx⟩ := hcut
    simp only at s0 s1 s2 s3
    have m1 := boxB hbx 1 rfl
    have m2 := boxB hbx 2 rfl
    have m3 := boxB hbx 3 rfl
    have m4 := boxB hbx 4 rfl
    have m5 := boxB hbx 5 rfl
    have m6 := boxB hbx 6 rfl
    have m0 := boxB hbx 0 rfl
    have hW := Below.ofBox hbx
    have hC := HC.out.below hW
    have c1 := hC.h1
    have c2 := hC.h2
    have c3 := hC.h3
    have g1 := hC.f1
    have g2 := hC.f2
    have g3 := hC.f3
    have HBX := Lib.hid hbx
    have HCw := Lib.hid hC
    have zb := hbx.size
    rw [World.size_alloc] at zb
    have HW := Lib.hid hW
    have zw := hW.size
    clear hW hC hbx h0 h0' hne H HS
    -- the last day
    go_upto_if 22 with fail
    go_cut [7] (fun s7 wx => s7 = .int .i64 lv ∧ wx = wc)
    case first =>
      rcases HLV.out with ⟨rfl, rfl⟩ | ⟨hk, rfl⟩
      · go_wp2_with fail
        all_goals (go_meet)
        all_goals exact ⟨rfl, rfl⟩
      · have hk' : (mk == 3) = false := by simpa using hk
        go_wp2_with fail
        all_goals (go_meet)
        all_goals exact ⟨rfl, rfl⟩
    case rest =>
      obtain ⟨rfl, rfl⟩ := hcut
      -- the tests
      go_upto_block 0 with fail
      go_cut [7] (fun s7 wx => s7 = .int .i64 lv ∧ E = 0 ∧ Below (w.heap.size + 1) (w.alloc (.cells #[.int .i64 mn, .int .i64 md, .int .i64 mk, .int .i64 ms, .int .i64 mf, .int .i64 mt, .int .i64 ma] 174)) wx)
      case first =>
        -- the day
        go_upto_region 7 with fail
        go_cut [26] (fun s26 wx => s26 = .bool (!p1) ∧ ∃ nq, wx = wc.drewN nq)
        case first =>
          by_cases hd : day < sis
          · have hm2 : mx = sis := by have := HMX.out; omega
            subst hm2
            go_quiet ((go_at_call 226; refine (amongR_any _ _ _ _).mono ?_; rw [HP1.out]; exact fun _ _ hh => ⟨hh.1, _, hh.2.symm⟩))
            go_wp2_with fail
            all_goals (go_meet)
            all_goals exact ⟨rfl, _, rfl⟩
          · have hm2 : mx = day := by have := HMX.out; omega
            subst hm2
            go_quiet ((go_at_call 226; refine (amongR_any _ _ _ _).mono ?_; rw [HP1.out]; exact fun _ _ hh => ⟨hh.1, _, hh.2.symm⟩))
            go_wp2_with fail
            all_goals (go_meet)
            all_goals exact ⟨rfl, _, rfl⟩
        case rest =>
          obtain ⟨rfl, nq, rfl⟩ := hcut
          cases p1
          · go_wp2
            go_ret
            exact do_err (by rw [HE.out]; rfl) (by omega) (below_drewZ HW.out _)
          by_cases u1 : ma ≤ 0
          · go_wp2
            go_ret
            exact do_err (by rw [HE.out, if_pos (by trivial), if_neg (by omega)]) (by omega) (below_drewZ HW.out _)
          cases p3
          · have hq := inB_not.1 HP3.out
            go_wp2_with (go_at_call 221; refine (valid_any _ _).mono ?_; rw [HP3.out]; rintro e w' ⟨rfl, rfl⟩)
            go_ret
            exact do_err (by rw [HE.out, if_pos (by trivial), if_neg (by omega)]) (by omega) (below_drewZ HW.out _)
          obtain ⟨q0, q1⟩ := inB_iff.1 HP3.out
          by_cases u2 : ma % sun = 0
          rotate_left
          · have u3 : (ma % sun != 0) = true := by simpa using u2
            have u4 : (ma % sun == 0) = false := by simpa using u2
            go_wp2_with (go_at_call 221; refine (valid_any _ _).mono ?_; rw [HP3.out]; rintro e w' ⟨rfl, rfl⟩)
            go_ret
            exact do_err (by rw [HE.out, if_pos (by trivial), if_neg (fun hh => u2 hh.2.2)]) (by omega) (below_drewZ HW.out _)
          have u3 : (ma % sun != 0) = false := by simpa using u2
          have hE3 : E = if p4 then 6 else if mf ≠ 0 ∧ heldH hs ms mf < ma then 77 else if mf = 0 ∧ 1000000000000 < outH hs ms + ma then 2 else 0 := by rw [HE.out, if_pos (by trivial), if_pos ⟨by omega, q1, u2⟩]
          have HE3 := Lib.hid hE3
          clear hE3 u2 HE
          go_wp2_with (go_at_call 221; refine (valid_any _ _).mono ?_; rw [HP3.out]; rintro e w' ⟨rfl, rfl⟩)
          refine (strange_any _ _ _ _ _ _ _ _).mono ?_
          rw [HP4.out]
          rintro e w4 ⟨rfl, hb4⟩
          have hB4 : Below w.heap.size w w4 := bup (below_drewZ HW.out nq) hb4
          have hX4 : Below (w.heap.size + 1) (w.alloc (.cells #[.int .i64 mn, .int .i64 md, .int .i64 mk, .int .i64 ms, .int .i64 mf, .int .i64 mt, .int .i64 ma] 174)) w4 := boxUp (below_drewZ HBX.out nq) hb4 zb
          have hC4 := HC.out.below hB4
          have k1 := hC4.h1
          have b3 := boxB hX4 3 rfl
          have b4 := boxB hX4 4 rfl
          have b6 := boxB hX4 6 rfl
          have SL4 := Lib.hid (Sl.own encHold_len hC4.O rfl (fun _ _ => trivial) : Sl 3 encHold (fun _ => True) w4 v hs)
          have HB4 := Lib.hid hB4
          have HX4 := Lib.hid hX4
          have HC4 := Lib.hid hC4
          have z4 := hX4.size
          rw [World.size_alloc] at z4
          clear hb4 hB4 hX4 hC4
          cases p4
          rotate_left
          · go_wp2
            go_ret
            exact do_err (by rw [HE3.out, if_pos (by trivial)]) (by omega) HB4.out
          by_cases hz : mf = 0
          · have hz1 : (mf == 0) = true := by simpa using hz
            have hz2 : (mf != 0) = false := by simpa using hz
            obtain ⟨O, hO⟩ : ∃ O, outH hs ms = O := ⟨_, rfl⟩
            have o0 := outH_nonneg HOK.out.pos ms
            have o1 := HOK.out.out ms
            rw [hO] at o0 o1
            have HO := Lib.hid hO
            have hE4 : E = if 1000000000000 < O + ma then 2 else 0 := by
              rw [HE3.out, if_neg (by simp), if_neg (fun hh => hh.1 hz), hO]
              by_cases q : 1000000000000 < O + ma
              · rw [if_pos ⟨hz, q⟩, if_pos q]
              · rw [if_neg (fun hh => q hh.2), if_neg q]
            have HE4 := Lib.hid hE4
            have HZ := Lib.hid hz
            have hwr : IntKind.i64.wrap (O + ma) = O + ma := IntWalk.i64_in _ (by omega)
            clear hE4 hz hO
            go_wp2
            go_quiet (fail)
            go_wp2
            by_cases hgt : 1000000000000 < O + ma
            · go_region_held3 (fun w' => w'.cell? ⟨w.heap.size, 3, none⟩ = some (.int .i64 ms) ∧ w'.cell? ⟨w.heap.size, 4, none⟩ = some (.int .i64 mf) ∧ w'.cell? ⟨w.heap.size, 6, none⟩ = some (.int .i64 ma)) (first | exact ⟨keepB hb5 b3, keepB hb5 b4, keepB hb5 b6⟩ | go_keep) (first | (go_at_call 241; refine (outst_any (fun _ => True) cb v hs ms _ ?_ ?_ HOK.out (by omega)).mono ?_; (· exact k1); (· exact SL4.out.block (Nat.le_refl _) (fun _ _ _ => rfl)); rw [HO.out]; rintro e w5 ⟨rfl, hb5⟩))
              go_wp2
              go_ret
              exact do_err (by rw [HE4.out, if_pos hgt]) (by omega) (bup (bdr (below_drewZ HB4.out _)) hb5)
            · go_region_held3 (fun w' => w'.cell? ⟨w.heap.size, 3, none⟩ = some (.int .i64 ms) ∧ w'.cell? ⟨w.heap.size, 4, none⟩ = some (.int .i64 mf) ∧ w'.cell? ⟨w.heap.size, 6, none⟩ = some (.int .i64 ma)) (first | exact ⟨keepB hb5 b3, keepB hb5 b4, keepB hb5 b6⟩ | go_keep) (first | (go_at_call 241; refine (outst_any (fun _ => True) cb v hs ms _ ?_ ?_ HOK.out (by omega)).mono ?_; (· exact k1); (· exact SL4.out.block (Nat.le_refl _) (fun _ _ _ => rfl)); rw [HO.out]; rintro e w5 ⟨rfl, hb5⟩))
              go_wp2
              go_meet
              exact ⟨rfl, by rw [HE4.out, if_neg (by omega)], boxUp (bdr (below_drewZ HX4.out _)) hb5 (by exact z4)⟩
          · have hz1 : (mf == 0) = false := by simpa using hz
            have hz2 : (mf != 0) = true := by simpa using hz
            obtain ⟨O, hO⟩ : ∃ O, heldH hs ms mf = O := ⟨_, rfl⟩
            have HO := Lib.hid hO
            have hE4 : E = if O < ma then 77 else 0 := by
              rw [HE3.out, if_neg (by simp), hO]
              by_cases q : O < ma
              · rw [if_pos ⟨hz, q⟩, if_pos q]
              · rw [if_neg (fun hh => q hh.2), if_neg q, if_neg (fun hh => hz hh.1)]
            have HE4 := Lib.hid hE4
            have HZ := Lib.hid hz
            clear hE4 hz hO
            go_wp2
            by_cases hgt : O < ma
            · go_region_held3 (fun w' => w'.cell? ⟨w.heap.size, 3, none⟩ = some (.int .i64 ms) ∧ w'.cell? ⟨w.heap.size, 4, none⟩ = some (.int .i64 mf) ∧ w'.cell? ⟨w.heap.size, 6, none⟩ = some (.int .i64 ma)) (first | exact ⟨keepB hb5 b3, keepB hb5 b4, keepB hb5 b6⟩ | go_keep) (first | (go_at_call 242; refine (held_any (fun _ => True) cb v hs ms mf _ ?_ ?_ HOK.out.srt (by omega)).mono ?_; (· exact k1); (· exact SL4.out.block (Nat.le_refl _) (fun _ _ _ => rfl)); rw [HO.out]; rintro e w5 ⟨rfl, hb5⟩))
              go_wp2
              go_ret
              exact do_err (by rw [HE4.out, if_pos hgt]) (by omega) (bup (bdr HB4.out) hb5)
            · go_region_held3 (fun w' => w'.cell? ⟨w.heap.size, 3, none⟩ = some (.int .i64 ms) ∧ w'.cell? ⟨w.heap.size, 4, none⟩ = some (.int .i64 mf) ∧ w'.cell? ⟨w.heap.size, 6, none⟩ = some (.int .i64 ma)) (first | exact ⟨keepB hb5 b3, keepB hb5 b4, keepB hb5 b6⟩ | go_keep) (first | (go_at_call 242; refine (held_any (fun _ => True) cb v hs ms mf _ ?_ ?_ HOK.out.srt (by omega)).mono ?_; (· exact k1); (· exact SL4.out.block (Nat.le_refl _) (fun _ _ _ => rfl)); rw [HO.out]; rintro e w5 ⟨rfl, hb5⟩))
              have b4' := keepB hb5 (w := w4.drew) b4
              go_wp2
              go_quiet (fail)
              go_wp2
              go_meet
              exact ⟨rfl, by rw [HE4.out, if_neg (by omega)], below_drewZ (boxUp (bdr HX4.out) hb5 (by exact z4)) _⟩
      case rest =>
        obtain ⟨rfl, hE0, hX5⟩ := hcut
        have hB5 := Below.ofBox hX5
        have hC5 := HC.out.below hB5
        have hp : 0 < ma ∧ ma ≤ 1000000000000 ∧ (mf ≠ 0 → ma ≤ heldH hs ms mf) ∧ (mf = 0 → outH hs ms + ma ≤ 1000000000000) := by
          have q := HE.out
          rw [hE0] at q
          repeat' split at q
          all_goals omega
        obtain ⟨ma0, ma1, hp2, hp3⟩ := hp
        have hok6 := hsOk_sub HOK.out (s := ms) (by omega) hp2
        have hok6l := addZ_len hs ms mf (-ma)
        have bh := boxHeap hX5
        have nr : NoRow _ w.heap.size := fun cur hcur => by rw [bh] at hcur; simp at hcur
        have m3 := boxB hX5 3 rfl
        have m4 := boxB hX5 4 rfl
        have m6 := boxB hX5 6 rfl
        have HX5 := Lib.hid hX5
        have HB5 := Lib.hid hB5
        have HC5 := Lib.hid hC5
        have z5 := hX5.size
        rw [World.size_alloc] at z5
        have HE0 := Lib.hid hE0
        have HBH := Lib.hid bh
        have HNR := Lib.hid nr
        have H6 := Lib.hid hok6
        clear hX5 hB5 hC5 hE0 bh nr hok6 hp2 hp3
        go_wp2_with fail
        refine (add_any cb v hs ms mf (-ma) _ HC5.out.h1 HC5.out.f1 HC5.out.O HOK.out.srt (by omega) (fun x hx => ⟨by have := HOK.out.pos x hx; omega, HOK.out.le hx⟩) (by omega) (by omega) (by omega)).mono ?_
        rintro e w6 ⟨rfl, v6, A6⟩
        have b6 := (A6.2.2.2.2.2 w.heap.size (by omega) (by omega) HNR.out).trans HBH.out
        have p3 := cell_heap (i := 3) b6 rfl
        have p5 := cell_heap (i := 5) b6 rfl
        have p6 := cell_heap (i := 6) b6 rfl
        have HA6 := Lib.hid A6
        have HB6 := Lib.hid b6
        clear A6 b6
        go_wp2_with fail
        refine (add_any cb v6 (addZ hs ms mf (-ma)) ms mt ma _ HA6.out.1 ((HA6.out.2.2.2.1 1).trans HC5.out.f1) HA6.out.2.1 H6.out.srt (by omega) (fun x hx => ⟨by have := H6.out.pos x hx; omega, H6.out.le hx⟩) (by omega) (by omega) (by omega)).mono ?_
        rintro e w7 ⟨rfl, v7, A7⟩
        have nr6 : NoRow w6 w.heap.size := fun cur hcur => by rw [HB6.out] at hcur; simp at hcur
        have b7 := (A7.2.2.2.2.2 w.heap.size (by have := (Array.getElem?_eq_some_iff.1 HB6.out).1; omega) (by omega) nr6).trans HB6.out
        have r1 := cell_heap (i := 1) b7 rfl
        have c2 : w7.cell? ⟨cb, 2, none⟩ = some (.int .i64 num) := ((A7.2.2.1 2 (by omega)).trans (HA6.out.2.2.1 2 (by omega))).trans HC5.out.h2
        have c3 : w7.cell? ⟨cb, 3, none⟩ = some (.int .i64 day) := ((A7.2.2.1 3 (by omega)).trans (HA6.out.2.2.1 3 (by omega))).trans HC5.out.h3
        have g2 : w7.frozen? ⟨cb, 2, none⟩ = false := ((A7.2.2.2.1 2).trans (HA6.out.2.2.2.1 2)).trans HC5.out.f2
        have g3 : w7.frozen? ⟨cb, 3, none⟩ = false := ((A7.2.2.2.1 3).trans (HA6.out.2.2.2.1 3)).trans HC5.out.f3
        have HA7 := Lib.hid A7
        have hwn : IntKind.i64.wrap (num + 1) = num + 1 := IntWalk.i64_in _ (by omega)
        have hcn : ¬ cb = w.heap.size := by omega
        clear A7 b7 nr6 p3 p5 p6
        go_wp2
        go_region
        all_goals
          go_wp2
          go_ret
          refine .inr ⟨HE0.out, rfl, ?_⟩
          have hH := HH.out
          unfold mvH at hH
          simp only at hH
          rw [← hH]
          exact do_ok HC5.out hcl HB5.out HA6.out HA7.out (do_grown _ _ _ _) (by simp [go_sem]) (by simp [go_sem]) (by simp [go_sem, c2]) (by simp [go_sem, c3]) (fun o => by simp [go_sem, World.frozen?_setCell])
end Go.Proofs.YthjaofgdickkaaaGreat
