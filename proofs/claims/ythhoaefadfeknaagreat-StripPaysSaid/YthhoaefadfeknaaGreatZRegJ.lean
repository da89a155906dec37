/- The register's clerk: do, where the security is there. Printed by wip/gen/regf.py. The register's clerk: do, whole; replay. Printed by wip/gen/regh.py. register: Equal of holdings, Check. register: Held, Outstanding, Debt, At, Find. -/
import Derived.Test.YthhoaefadfeknaaGreatZRegE
import Derived.Deep.CutBlock
import Derived.StillTailTactics
import Derived.Test.YthhoaefadfeknaaGreatZRegP
namespace Go.Proofs.YthhoaefadfeknaaGreat
open Go.RowKit
set_option linter.unusedVariables false
set_option linter.unusedSimpArgs false

theorem Below.ofBox {w wx : World} {M : Array Value} {T : TypeId} (hb : Below (w.heap.size + 1) (w.alloc (.cells M T)) wx) : Below w.heap.size w wx := (bal brefl _).trans (hb.mono (by omega))
theorem boxHeap {w wx : World} {M : Array Value} {T : TypeId} (hb : Below (w.heap.size + 1) (w.alloc (.cells M T)) wx) : wx.heap[w.heap.size]? = some (.cells M T (0, 0)) := (hb.block _ (by omega)).trans (heap_alloc_new _ _)
theorem cell_heap {w : World} {b i : Nat} {M : Array Value} {T : TypeId} {v : Value} (h : w.heap[b]? = some (.cells M T (0, 0))) (hv : M[i]? = some v) : w.cell? ⟨b, i, none⟩ = some v := by
  rw [cell_of_row w b i _ T (0, 0) h]; exact hv
/-- the clerk behind a move -/
theorem do_ok {cb : Nat} {secs : List Sec} {hs L6 L7 : List Hold} {num day md : Int} {vs v v6 v7 : Value} {w w5 w6 w7 W : World} (C : CkIn cb w5 secs hs num day vs v) (hcb : cb < w.heap.size) (hB : Below w.heap.size w w5) (A6 : AddedV cb v6 L6 w5 w6) (A7 : AddedV cb v7 L7 w6 w7)
    (hg : w7.grownBy W (some cb)) (q0 : W.cell? ⟨cb, 0, none⟩ = w7.cell? ⟨cb, 0, none⟩) (q1 : W.cell? ⟨cb, 1, none⟩ = w7.cell? ⟨cb, 1, none⟩) (q2 : W.cell? ⟨cb, 2, none⟩ = some (.int .i64 (num + 1))) (q3 : W.cell? ⟨cb, 3, none⟩ = some (.int .i64 md)) (qf : ∀ o, W.frozen? ⟨cb, o, none⟩ = w7.frozen? ⟨cb, o, none⟩) :
    (∃ v', CkIn cb W secs L7 (num + 1) md vs v') ∧ Below cb w W := by
  obtain ⟨a1, a2, a3, a4, a5, a6⟩ := A6
  obtain ⟨b1, b2, b3, b4, b5, b6⟩ := A7
  have hb57 : Below cb w5 w7 := a5.trans b5
  have hbW : Below cb w5 W := hb57.trans ⟨hg.os, hg.tape, hg.output, hg.size, fun k hk => by
    rcases Nat.lt_or_ge k w7.heap.size with h | h
    · exact hg.block k h (by simp; omega)
    · have : cb < w7.heap.size := Nat.lt_of_lt_of_le hcb (Nat.le_trans hB.size hb57.size)
      omega⟩
  refine ⟨⟨v7, ?_, q1.trans b1, q2, q3, ?_, ?_, ?_, C.S.belowB hbW (fun b hb => hb), ?_⟩, (hB.mono (by omega)).trans hbW⟩
  · rw [q0, b3 0 (by omega), a3 0 (by omega)]; exact C.h0
  · rw [qf, b4, a4]; exact C.f1
  · rw [qf, b4, a4]; exact C.f2
  · rw [qf, b4, a4]; exact C.f3
  · refine b2.kept hg ?_
    cases hb : v7.ownBlock with
    | none => exact .inl rfl
    | some k => exact .inr (by have := (b2.lt k hb).1; simp; omega)
theorem do_grown (w : World) (cb : Nat) (x y : Value) : w.grownBy ((w.setCell ⟨cb, 2, none⟩ x).setCell ⟨cb, 3, none⟩ y).drew (some cb) := by
  have q := grownBy_transZ (grownBy_setCellZ w cb 2 x) (grownBy_setCellZ _ cb 3 y)
  exact ⟨q.os, q.tape, q.output, q.size, q.block⟩
theorem boxUp {n : Nat} {B w1 w2 : World} (h : Below (n + 1) B w1) (h1 : Below w1.heap.size w1 w2) (hn : n + 1 ≤ w1.heap.size) : Below (n + 1) B w2 := h.trans (h1.mono hn)
set_option maxHeartbeats 4000000 in
set_option maxRecDepth 100000 in
theorem do_some (cb : Nat) (secs : List Sec) (hs : List Hold) (num day : Int) (vs v : Value) (mn md mk ms mf mt ma : Int) (w : World) (C : CkIn cb w secs hs num day vs v) (hlen : secs.length ≤ 1000000) (hok : HsOk hs) (hhl : hs.length ≤ 90000)
    (hnum : 0 ≤ num) (hnum2 : num ≤ 1000000) (sun sis sma sra sev : Int) (six : Bool) (hf : findS secs ms = some ⟨ms, sun, sis, sma, sra, sev, six⟩) (hun : 1 ≤ sun) (hun2 : sun ≤ 1000000000) (lv : Int) (hlv : (mk = 3 ∧ lv = 36000) ∨ (mk ≠ 3 ∧ lv = sma)) (mx : Int) (hmx : mx = max day sis) :
    Calls Tryz.prog 194 #[.pointer (some ⟨cb, 0, none⟩), .agg #[.int .i64 mn, .int .i64 md, .int .i64 mk, .int .i64 ms, .int .i64 mf, .int .i64 mt, .int .i64 ma]] w (DoPost cb secs vs num md (mvE secs hs day ⟨mn, md, mk, ms, mf, mt, ma⟩) (mvH hs ⟨mn, md, mk, ms, mf, mt, ma⟩) w) := by
  have h0 := C.h0
  have hcl := C.lt
  have H := Lib.hid (fun W hS => find_yes (· < cb) vs secs ms _ _ _ _ _ _ _ W hS hlen hf)
  have HS := Lib.hid (C.S.alloc (.cells #[.int .i64 mn, .int .i64 md, .int .i64 mk, .int .i64 ms, .int .i64 mf, .int .i64 mt, .int .i64 ma] 130))
  have HC := Lib.hid C
  have HOK := Lib.hid hok
  obtain ⟨E, hE⟩ : ∃ E, mvE secs hs day ⟨mn, md, mk, ms, mf, mt, ma⟩ = E := ⟨_, rfl⟩
  obtain ⟨H', hH'⟩ : ∃ H', mvH hs ⟨mn, md, mk, ms, mf, mt, ma⟩ = H' := ⟨_, rfl⟩
  rw [hE, hH']
  obtain ⟨p1, hp1⟩ : ∃ p, inB md mx lv = p := ⟨_, rfl⟩
  obtain ⟨p3, hp3⟩ : ∃ p, inB ma 0 1000000000000 = p := ⟨_, rfl⟩
  obtain ⟨p4, hp4⟩ : ∃ p, strangeB ⟨mn, md, mk, ms, mf, mt, ma⟩ = p := ⟨_, rfl⟩
  have hE2 : E = if p1 then (if 0 < ma ∧ ma ≤ 1000000000000 ∧ ma % sun = 0 then (if p4 then 6 else if mf ≠ 0 ∧ heldH hs ms mf < ma then 77 else if mf = 0 ∧ 1000000000000 < outH hs ms + ma then 2 else 0) else 79) else 8 := by
    rw [← hE, ← hp1, ← hp4]
    unfold mvE
    simp only [hf]
    unfold mvE1
    simp only
    have e1 : (if mk = 3 then (36000 : Int) else sma) = lv := by
      rcases hlv with ⟨q1, q2⟩ | ⟨q1, q2⟩
      · rw [if_pos q1, q2]
      · rw [if_neg q1, q2]
    rw [e1, ← hmx]
  have HE := Lib.hid hE2
  have HH := Lib.hid hH'
  have HP1 := Lib.hid hp1
  have HP3 := Lib.hid hp3
  have HP4 := Lib.hid hp4
  have HMX := Lib.hid hmx
  have HLV := Lib.hid hlv
  clear C hf hok hE hH' hE2 hp1 hp3 hp4 hmx hlv
  have h0' : (w.alloc (.cells #[.int .i64 mn, .int .i64 md, .int .i64 mk, .int .i64 ms, .int .i64 mf, .int .i64 mt, .int .i64 ma] 130)).cell? ⟨cb, 0, none⟩ = some vs := (World.cell?_alloc_past _ _ _ hcl).trans h0
  have hne : ¬ cb = w.heap.size + 1 := by omega
  go_enter Tryz.func194, Tryz.ntmps194
  go_upto_region 1 with fail
  go_cut [5, 6] (fun s5 s6 wx => s6 = .bool true ∧ FoundAt w #[.int .i64 mn, .int .i64 md, .int .i64 mk, .int .i64 ms, .int .i64 mf, .int .i64 mt, .int .i64 ma] ⟨ms, sun, sis, sma, sra, sev, six⟩ s5 wx)
  case first =>
    go_region_with (first | (go_at_call 163; refine (H.out _ ?_).mono ?_; (· first | exact HS.out.drewN 1 | exact (HS.out.alloc _).drewN 1); rintro e w1 ⟨rfl, hb1⟩; obtain ⟨hc1, hf1⟩ := bcell hb1; have hz1 := hb1.size; simp at hz1))
    all_goals (go_wp2_with fail; go_meet)
    all_goals first
      | exact ⟨rfl, found_a (s := ⟨ms, sun, sis, sma, sra, sev, six⟩) hb1⟩
      | exact ⟨rfl, found_b (s := ⟨ms, sun, sis, sma, sra, sev, six⟩) rfl hb1⟩
  case rest =>
    obtain ⟨rfl, sb, rfl, hsb, s0, s1, s2, s3, hbx⟩ := hcut
    simp only at s0 s1 s2 s3
    have m1 := boxB hbx 1 rfl
    have m2 := boxB hbx 2 rfl
    have m3 := boxB hbx 3 rfl
    have m4 := boxB hbx 4 rfl
    have m5 := boxB hbx 5 rfl
    have m6 := boxB hbx 6 rfl
    have m0 := boxB hbx 0 rfl
    have hW := Below.ofBox hbx
    have hC := HC.out.below hW
    have c1 := hC.h1
    have c2 := hC.h2
    have c3 := hC.h3
    have g1 := hC.f1
    have g2 := hC.f2
    have g3 := hC.f3
    have HBX := Lib.hid hbx
    have HCw := Lib.hid hC
    have zb := hbx.size
    rw [World.size_alloc] at zb
    have HW := Lib.hid hW
    have zw := hW.size
    clear hW hC hbx h0 h0' hne H HS
    -- the last day
    go_upto_if 22 with fail
    go_cut [7] (fun s7 wx => s7 = .int .i64 lv ∧ wx = wc)
    case first =>
      rcases HLV.out with ⟨rfl, rfl⟩ | ⟨hk, rfl⟩
      · go_wp2_with fail
        all_goals (go_meet)
        all_goals exact ⟨rfl, rfl⟩
      · have hk' : (mk == 3) = false := by simpa using hk
        go_wp2_with fail
        all_goals (go_meet)
        all_goals exact ⟨rfl, rfl⟩
    case rest =>
      obtain ⟨rfl, rfl⟩ := hcut
      -- the tests
      go_upto_block 0 with fail
      go_cut [7] (fun s7 wx => s7 = .int .i64 lv ∧ E = 0 ∧ Below (w.heap.size + 1) (w.alloc (.cells #[.int .i64 mn, .int .i64 md, .int .i64 mk, .int .i64 ms, .int .i64 mf, .int .i64 mt, .int .i64 ma] 130)) wx)
      case first =>
        -- the day
        go_upto_region 7 with fail
        go_cut [26] (fun s26 wx => s26 = .bool (!p1) ∧ ∃ nq, wx = wc.drewN nq)
        case first =>
          by_cases hd : day < sis
          · have hm2 : mx = sis := by have := HMX.out; omega
            subst hm2
            go_quiet ((go_at_call 157; refine (amongR_any _ _ _ _).mono ?_; rw [HP1.out]; exact fun _ _ hh => ⟨hh.1, _, hh.2.symm⟩))
            go_wp2_with fail
            all_goals (go_meet)
            all_goals exact ⟨rfl, _, rfl⟩
          · have hm2 : mx = day := by have := HMX.out; omega
            subst hm2
            go_quiet ((go_at_call 157; refine (amongR_any _ _ _ _).mono ?_; rw [HP1.out]; exact fun _ _ hh => ⟨hh.1, _, hh.2.symm⟩))
            go_wp2_with fail
            all_goals (go_meet)
            all_goals exact ⟨rfl, _, rfl⟩
        case rest =>
          obtain ⟨rfl, nq, rfl⟩ := hcut
          cases p1
          · go_wp2
            go_ret
            exact do_err (by rw [HE.out]; rfl) (by omega) (below_drewZ HW.out _)
          by_cases u1 : ma ≤ 0
          · go_wp2
            go_ret
            exact do_err (by rw [HE.out, if_pos (by trivial), if_neg (by omega)]) (by omega) (below_drewZ HW.out _)
          cases p3
          · have hq := inB_not.1 HP3.out
            go_wp2_with (go_at_call 158; refine (valid_any _ _).mono ?_; rw [HP3.out]; rintro e w' ⟨rfl, rfl⟩)
            go_ret
            exact do_err (by rw [HE.out, if_pos (by trivial), if_neg (by omega)]) (by omega) (below_drewZ HW.out _)
          obtain ⟨q0, q1⟩ := inB_iff.1 HP3.out
          by_cases u2 : ma % sun = 0
          rotate_left
          · have u3 : (ma % sun != 0) = true := by simpa using u2
            have u4 : (ma % sun == 0) = false := by simpa using u2
            go_wp2_with (go_at_call 158; refine (valid_any _ _).mono ?_; rw [HP3.out]; rintro e w' ⟨rfl, rfl⟩)
            go_ret
            exact do_err (by rw [HE.out, if_pos (by trivial), if_neg (fun hh => u2 hh.2.2)]) (by omega) (below_drewZ HW.out _)
          have u3 : (ma % sun != 0) = false := by simpa using u2
          have hE3 : E = if p4 then 6 else if mf ≠ 0 ∧ heldH hs ms mf < ma then 77 else if mf = 0 ∧ 1000000000000 < outH hs ms + ma then 2 else 0 := by rw [HE.out, if_pos (by trivial), if_pos ⟨by omega, q1, u2⟩]
          have HE3 := Lib.hid hE3
          clear hE3 u2 HE
          go_wp2_with (go_at_call 158; refine (valid_any _ _).mono ?_; rw [HP3.out]; rintro e w' ⟨rfl, rfl⟩)
          refine (strange_any _ _ _ _ _ _ _ _).mono ?_
          rw [HP4.out]
          rintro e w4 ⟨rfl, hb4⟩
          have hB4 : Below w.heap.size w w4 := bup (below_drewZ HW.out nq) hb4
          have hX4 : Below (w.heap.size + 1) (w.alloc (.cells #[.int .i64 mn, .int .i64 md, .int .i64 mk, .int .i64 ms, .int .i64 mf, .int .i64 mt, .int .i64 ma] 130)) w4 := boxUp (below_drewZ HBX.out nq) hb4 zb
          have hC4 := HC.out.below hB4
          have k1 := hC4.h1
          have b3 := boxB hX4 3 rfl
          have b4 := boxB hX4 4 rfl
          have b6 := boxB hX4 6 rfl
          have SL4 := Lib.hid (Sl.own encHold_len hC4.O rfl (fun _ _ => trivial) : Sl 3 encHold (fun _ => True) w4 v hs)
          have HB4 := Lib.hid hB4
          have HX4 := Lib.hid hX4
          have HC4 := Lib.hid hC4
          have z4 := hX4.size
          rw [World.size_alloc] at z4
          clear hb4 hB4 hX4 hC4
          cases p4
          rotate_left
          · go_wp2
            go_ret
            exact do_err (by rw [HE3.out, if_pos (by trivial)]) (by omega) HB4.out
          by_cases hz : mf = 0
          · have hz1 : (mf == 0) = true := by simpa using hz
            have hz2 : (mf != 0) = false := by simpa using hz
            obtain ⟨O, hO⟩ : ∃ O, outH hs ms = O := ⟨_, rfl⟩
            have o0 := outH_nonneg HOK.out.pos ms
            have o1 := HOK.out.out ms
            rw [hO] at o0 o1
            have HO := Lib.hid hO
            have hE4 : E = if 1000000000000 < O + ma then 2 else 0 := by
              rw [HE3.out, if_neg (by simp), if_neg (fun hh => hh.1 hz), hO]
              by_cases q : 1000000000000 < O + ma
              · rw [if_pos ⟨hz, q⟩, if_pos q]
              · rw [if_neg (fun hh => q hh.2), if_neg q]
            have HE4 := Lib.hid hE4
            have HZ := Lib.hid hz
            have hwr : IntKind.i64.wrap (O + ma) = O + ma := IntWalk.i64_in _ (by omega)
            clear hE4 hz hO
            go_wp2
            go_quiet (fail)
            go_wp2
            by_cases hgt : 1000000000000 < O + ma
            · go_region_held3 (fun w' => w'.cell? ⟨w.heap.size, 3, none⟩ = some (.int .i64 ms) ∧ w'.cell? ⟨w.heap.size, 4, none⟩ = some (.int .i64 mf) ∧ w'.cell? ⟨w.heap.size, 6, none⟩ = some (.int .i64 ma)) (first | exact ⟨keepB hb5 b3, keepB hb5 b4, keepB hb5 b6⟩ | go_keep) (first | (go_at_call 174; refine (outst_any (fun _ => True) cb v hs ms _ ?_ ?_ HOK.out (by omega)).mono ?_; (· exact k1); (· exact SL4.out.block (Nat.le_refl _) (fun _ _ _ => rfl)); rw [HO.out]; rintro e w5 ⟨rfl, hb5⟩))
              go_wp2
              go_ret
              exact do_err (by rw [HE4.out, if_pos hgt]) (by omega) (bup (bdr (below_drewZ HB4.out _)) hb5)
            · go_region_held3 (fun w' => w'.cell? ⟨w.heap.size, 3, none⟩ = some (.int .i64 ms) ∧ w'.cell? ⟨w.heap.size, 4, none⟩ = some (.int .i64 mf) ∧ w'.cell? ⟨w.heap.size, 6, none⟩ = some (.int .i64 ma)) (first | exact ⟨keepB hb5 b3, keepB hb5 b4, keepB hb5 b6⟩ | go_keep) (first | (go_at_call 174; refine (outst_any (fun _ => True) cb v hs ms _ ?_ ?_ HOK.out (by omega)).mono ?_; (· exact k1); (· exact SL4.out.block (Nat.le_refl _) (fun _ _ _ => rfl)); rw [HO.out]; rintro e w5 ⟨rfl, hb5⟩))
              go_wp2
              go_meet
              exact ⟨rfl, by rw [HE4.out, if_neg (by omega)], boxUp (bdr (below_drewZ HX4.out _)) hb5 (by exact z4)⟩
          · have hz1 : (mf == 0) = false := by simpa using hz
            have hz2 : (mf != 0) = true := by simpa using hz
            obtain ⟨O, hO⟩ : ∃ O, heldH hs ms mf = O := ⟨_, rfl⟩
            have HO := Lib.hid hO
            have hE4 : E = if O < ma then 77 else 0 := by
              rw [HE3.out, if_neg (by simp), hO]
              by_cases q : O < ma
              · rw [if_pos ⟨hz, q⟩, if_pos q]
              · rw [if_neg (fun hh => q hh.2), if_neg q, if_neg (fun hh => hz hh.1)]
            have HE4 := Lib.hid hE4
            have HZ := Lib.hid hz
            clear hE4 hz hO
            go_wp2
            by_cases hgt : O < ma
            · go_region_held3 (fun w' => w'.cell? ⟨w.heap.size, 3, none⟩ = some (.int .i64 ms) ∧ w'.cell? ⟨w.heap.size, 4, none⟩ = some (.int .i64 mf) ∧ w'.cell? ⟨w.heap.size, 6, none⟩ = some (.int .i64 ma)) (first | exact ⟨keepB hb5 b3, keepB hb5 b4, keepB hb5 b6⟩ | go_keep) (first | (go_at_call 175; refine (held_any (fun _ => True) cb v hs ms mf _ ?_ ?_ HOK.out.srt (by omega)).mono ?_; (· exact k1); (· exact SL4.out.block (Nat.le_refl _) (fun _ _ _ => rfl)); rw [HO.out]; rintro e w5 ⟨rfl, hb5⟩))
              go_wp2
              go_ret
              exact do_err (by rw [HE4.out, if_pos hgt]) (by omega) (bup (bdr HB4.out) hb5)
            · go_region_held3 (fun w' => w'.cell? ⟨w.heap.size, 3, none⟩ = some (.int .i64 ms) ∧ w'.cell? ⟨w.heap.size, 4, none⟩ = some (.int .i64 mf) ∧ w'.cell? ⟨w.heap.size, 6, none⟩ = some (.int .i64 ma)) (first | exact ⟨keepB hb5 b3, keepB hb5 b4, keepB hb5 b6⟩ | go_keep) (first | (go_at_call 175; refine (held_any (fun _ => True) cb v hs ms mf _ ?_ ?_ HOK.out.srt (by omega)).mono ?_; (· exact k1); (· exact SL4.out.block (Nat.le_refl _) (fun _ _ _ => rfl)); rw [HO.out]; rintro e w5 ⟨rfl, hb5⟩))
              have b4' := keepB hb5 (w := w4.drew) b4
              go_wp2
              go_quiet (fail)
              go_wp2
              go_meet
              exact ⟨rfl, by rw [HE4.out, if_neg (by omega)], below_drewZ (boxUp (bdr HX4.out) hb5 (by exact z4)) _⟩
      case rest =>
        obtain ⟨rfl, hE0, hX5⟩ := hcut
        have hB5 := Below.ofBox hX5
        have hC5 := HC.out.below hB5
        have hp : 0 < ma ∧ ma ≤ 1000000000000 ∧ (mf ≠ 0 → ma ≤ heldH hs ms mf) ∧ (mf = 0 → outH hs ms + ma ≤ 1000000000000) := by
          have q := HE.out
          rw [hE0] at q
          repeat' split at q
          all_goals omega
        obtain ⟨ma0, ma1, hp2, hp3⟩ := hp
        have hok6 := hsOk_sub HOK.out (s := ms) (by omega) hp2
        have hok6l := addZ_len hs ms mf (-ma)
        have bh := boxHeap hX5
        have nr : NoRow _ w.heap.size := fun cur hcur => by rw [bh] at hcur; simp at hcur
        have m3 := boxB hX5 3 rfl
        have m4 := boxB hX5 4 rfl
        have m6 := boxB hX5 6 rfl
        have HX5 := Lib.hid hX5
        have HB5 := Lib.hid hB5
        have HC5 := Lib.hid hC5
        have z5 := hX5.size
        rw [World.size_alloc] at z5
        have HE0 := Lib.hid hE0
        have HBH := Lib.hid bh
        have HNR := Lib.hid nr
        have H6 := Lib.hid hok6
        clear hX5 hB5 hC5 hE0 bh nr hok6 hp2 hp3
        go_wp2_with fail
        refine (add_any cb v hs ms mf (-ma) _ HC5.out.h1 HC5.out.f1 HC5.out.O HOK.out.srt (by omega) (fun x hx => ⟨by have := HOK.out.pos x hx; omega, HOK.out.le hx⟩) (by omega) (by omega) (by omega)).mono ?_
        rintro e w6 ⟨rfl, v6, A6⟩
        have b6 := (A6.2.2.2.2.2 w.heap.size (by omega) (by omega) HNR.out).trans HBH.out
        have p3 := cell_heap (i := 3) b6 rfl
        have p5 := cell_heap (i := 5) b6 rfl
        have p6 := cell_heap (i := 6) b6 rfl
        have HA6 := Lib.hid A6
        have HB6 := Lib.hid b6
        clear A6 b6
        go_wp2_with fail
        refine (add_any cb v6 (addZ hs ms mf (-ma)) ms mt ma _ HA6.out.1 ((HA6.out.2.2.2.1 1).trans HC5.out.f1) HA6.out.2.1 H6.out.srt (by omega) (fun x hx => ⟨by have := H6.out.pos x hx; omega, H6.out.le hx⟩) (by omega) (by omega) (by omega)).mono ?_
        rintro e w7 ⟨rfl, v7, A7⟩
        have nr6 : NoRow w6 w.heap.size := fun cur hcur => by rw [HB6.out] at hcur; simp at hcur
        have b7 := (A7.2.2.2.2.2 w.heap.size (by have := (Array.getElem?_eq_some_iff.1 HB6.out).1; omega) (by omega) nr6).trans HB6.out
        have r1 := cell_heap (i := 1) b7 rfl
        have c2 : w7.cell? ⟨cb, 2, none⟩ = some (.int .i64 num) := ((A7.2.2.1 2 (by omega)).trans (HA6.out.2.2.1 2 (by omega))).trans HC5.out.h2
        have c3 : w7.cell? ⟨cb, 3, none⟩ = some (.int .i64 day) := ((A7.2.2.1 3 (by omega)).trans (HA6.out.2.2.1 3 (by omega))).trans HC5.out.h3
        have g2 : w7.frozen? ⟨cb, 2, none⟩ = false := ((A7.2.2.2.1 2).trans (HA6.out.2.2.2.1 2)).trans HC5.out.f2
        have g3 : w7.frozen? ⟨cb, 3, none⟩ = false := ((A7.2.2.2.1 3).trans (HA6.out.2.2.2.1 3)).trans HC5.out.f3
        have HA7 := Lib.hid A7
        have hwn : IntKind.i64.wrap (num + 1) = num + 1 := IntWalk.i64_in _ (by omega)
        have hcn : ¬ cb = w.heap.size := by omega
        clear A7 b7 nr6 p3 p5 p6
        go_wp2
        go_region
        all_goals
          go_wp2
          go_ret
          refine .inr ⟨HE0.out, rfl, ?_⟩
          have hH := HH.out
          unfold mvH at hH
          simp only at hH
          rw [← hH]
          exact do_ok HC5.out hcl HB5.out HA6.out HA7.out (do_grown _ _ _ _) (by simp [go_sem]) (by simp [go_sem]) (by simp [go_sem, c2]) (by simp [go_sem, c3]) (fun o => by simp [go_sem, World.frozen?_setCell])
end Go.Proofs.YthhoaefadfeknaaGreat
namespace Go.Proofs.YthhoaefadfeknaaGreat
open Go.RowKit
set_option linter.unusedVariables false
set_option linter.unusedSimpArgs false

theorem do_any (cb : Nat) (secs : List Sec) (hs : List Hold) (num day : Int) (vs v : Value) (mn md mk ms mf mt ma : Int) (w : World) (C : CkIn cb w secs hs num day vs v) (hlen : secs.length ≤ 1000000) (hok : HsOk hs) (hhl : hs.length ≤ 90000)
    (hnum : 0 ≤ num) (hnum2 : num ≤ 1000000) (hsec : ∀ s ∈ secs, secOk s = true) :
    Calls Tryz.prog 194 #[.pointer (some ⟨cb, 0, none⟩), .agg #[.int .i64 mn, .int .i64 md, .int .i64 mk, .int .i64 ms, .int .i64 mf, .int .i64 mt, .int .i64 ma]] w (DoPost cb secs vs num md (mvE secs hs day ⟨mn, md, mk, ms, mf, mt, ma⟩) (mvH hs ⟨mn, md, mk, ms, mf, mt, ma⟩) w) := by
  cases hf : findS secs ms with
  | none =>
    refine (do_none cb secs hs num day vs v mn md mk ms mf mt ma w C hlen hf).mono ?_
    rintro e w' ⟨rfl, hb⟩
    exact do_err (by unfold mvE; simp only [hf]) (by omega) hb
  | some s =>
    obtain ⟨hm, hid⟩ := findS_mem hf
    have hu := secOk_un (hsec s hm)
    obtain ⟨sid, sun, sis, sma, sra, sev, six⟩ := s
    simp only at hid hu
    subst hid
    refine do_some cb secs hs num day vs v mn md mk sid mf mt ma w C hlen hok hhl hnum hnum2 sun sis sma sra sev six hf hu.1 hu.2 (if mk = 3 then 36000 else sma) ?_ _ rfl
    by_cases h : mk = 3
    · exact .inl ⟨h, if_pos h⟩
    · exact .inr ⟨h, if_neg h⟩
theorem wantAll_any (mn md mk ms mf mt ma : Int) (w : World) :
    Calls Tryz.prog 167 #[.agg #[.int .i64 mn, .int .i64 md, .int .i64 mk, .int .i64 ms, .int .i64 mf, .int .i64 mt, .int .i64 ma]] w fun e w' => e = .returned (.bool (wantAll ⟨mn, md, mk, ms, mf, mt, ma⟩)) ∧ Below w.heap.size w w' := by
  go_enter Tryz.func167, Tryz.ntmps167
  go_wp2
  go_ret
  exact ⟨rfl, bal brefl _⟩
theorem wantDay_any (mn md mk ms mf mt ma day : Int) (db : Nat) (w : World) (h : w.cell? ⟨db, 0, none⟩ = some (.int .i64 day)) :
    Calls Tryz.prog 162 #[.agg #[.int .i64 mn, .int .i64 md, .int .i64 mk, .int .i64 ms, .int .i64 mf, .int .i64 mt, .int .i64 ma], .pointer (some ⟨db, 0, none⟩)] w fun e w' => e = .returned (.bool (wantDay day ⟨mn, md, mk, ms, mf, mt, ma⟩)) ∧ Below w.heap.size w w' := by
  have hlt := World.block_lt_of_cell? w _ h
  simp only at hlt
  have hne : ¬ db = w.heap.size := by omega
  have h' : (w.alloc (.cells #[.int .i64 mn, .int .i64 md, .int .i64 mk, .int .i64 ms, .int .i64 mf, .int .i64 mt, .int .i64 ma] 130)).cell? ⟨db, 0, none⟩ = some (.int .i64 day) := (World.cell?_alloc_past _ _ _ hlt).trans h
  by_cases hd : md ≤ day
  · have e1 : wantDay day ⟨mn, md, mk, ms, mf, mt, ma⟩ = true := by unfold wantDay; simpa using hd
    rw [e1]
    go_enter Tryz.func162, Tryz.ntmps162
    go_wp2
    go_ret
    exact ⟨rfl, bal brefl _⟩
  · have e1 : wantDay day ⟨mn, md, mk, ms, mf, mt, ma⟩ = false := by unfold wantDay; simpa using hd
    rw [e1]
    go_enter Tryz.func162, Tryz.ntmps162
    go_wp2
    go_ret
    exact ⟨rfl, bal brefl _⟩
/-- what replay leaves -/
def Replayed (vs : Value) (secs : List Sec) (R : Bool × Int × Int × List Hold) (w : World) (e : Ending) (w' : World) : Prop :=
  ∃ v, e = .returned (.tuple #[.pointer (some ⟨w.heap.size + 1, 0, none⟩), .bool R.1]) ∧ CkIn (w.heap.size + 1) w' secs R.2.2.2 R.2.1 R.2.2.1 vs v ∧ Below w.heap.size w w'
set_option maxHeartbeats 4000000 in
set_option maxRecDepth 100000 in
theorem replay_all (vs vh vm : Value) (secs : List Sec) (ms : List Mv) (w : World) (hS : Sl 7 encSec (fun _ => True) w vs secs) (hM : Sl 7 encMv (fun _ => True) w vm ms) (hlen : secs.length ≤ 1000000) (hml : ms.length ≤ 1000) (hvh : ∃ a n c, vh = .slice a n c) (hsec : ∀ s ∈ secs, secOk s = true)  :
    Calls Tryz.prog 161 #[.agg #[vs, vh, vm], .func (.func 167) #[] #[]] w (Replayed vs secs (repl secs wantAll ms 0 0 []) w) := by
  obtain ⟨ao, n, c, rfl, hn, hnc, hcm⟩ := hM.shape
  obtain ⟨a0, n0, c0, rfl, -, -, -⟩ := hS.shape
  obtain ⟨ah, nh, ch, rfl⟩ := hvh
  have hn1 : n ≤ 1000 := by omega
  obtain ⟨R, hR⟩ : ∃ R, repl secs wantAll ms 0 0 [] = R := ⟨_, rfl⟩
  have HS := Lib.hid hS
  have HM := Lib.hid hM
  have HN := Lib.hid hn
  have HR := Lib.hid hR
  have HSEC := Lib.hid hsec
  rw [hR]
  clear hS hM hn hR hsec hml
  go_enter Tryz.func161, Tryz.ntmps161
  go_wp2
  obtain ⟨W, hW⟩ : ∃ W, W = ((w.alloc (.cells #[.slice a0 n0 c0, .slice ah nh ch, .slice ao n c] 31)).alloc (.cells #[.slice a0 n0 c0, .slice none 0 0, .int .i64 0, .int .i64 0] 182)) := ⟨_, rfl⟩
  have hbW : Below w.heap.size w W := by rw [hW]; exact bal (bal brefl _) _
  have zW : W.heap.size = w.heap.size + 2 := by rw [hW]; simp
  have hC0 : CkIn (w.heap.size + 1) W secs [] 0 0 (.slice a0 n0 c0) (.slice none 0 0) := by
    rw [hW]
    refine ⟨?_, ?_, ?_, ?_, ?_, ?_, ?_, ?_, World.ownsRow_nil _ _ _ _⟩
    · rw [World.cell?_alloc_at _ _ _ _ (by simp)]; rfl
    · rw [World.cell?_alloc_at _ _ _ _ (by simp)]; rfl
    · rw [World.cell?_alloc_at _ _ _ _ (by simp)]; rfl
    · rw [World.cell?_alloc_at _ _ _ _ (by simp)]; rfl
    · exact World.frozen?_alloc_at _ _ _ _ (by simp)
    · exact World.frozen?_alloc_at _ _ _ _ (by simp)
    · exact World.frozen?_alloc_at _ _ _ _ (by simp)
    · exact ((HS.out.mono (fun b _ hb => Nat.lt_succ_of_lt hb)).alloc _).alloc _
  have HC0 := Lib.hid hC0
  have HBW := Lib.hid hbW
  clear hC0 hbW
  go_loopw [16] (fun iv wr => ∃ (k : Nat) (day : Int) (hs : List Hold) (v : Value), k ≤ n ∧ iv = .int .i64 k ∧ CkIn (w.heap.size + 1) wr secs hs k day (.slice a0 n0 c0) v ∧ HsOk hs ∧ hs.length ≤ 2 * k ∧ R = repl secs wantAll (ms.drop k) k day hs ∧ Below (w.heap.size + 1) W wr) (fun iv _ => n - (intOf iv).toNat)
  case atStart => exact ⟨0, 0, [], _, by omega, rfl, by rw [hW] at HC0; exact HC0.out, HsOk.nil, by simp, by rw [List.drop_zero]; exact HR.out.symm, by rw [hW]; exact Below.refl _ _⟩
  case round =>
    obtain ⟨k, day, hs, v, hk, rfl, hC, hok, hhl, hRk, hbr⟩ := hrel
    have zr := hbr.size
    rw [zW] at zr
    have hBr : Below w.heap.size w wr := HBW.out.trans (hbr.mono (by omega))
    have HBR := Lib.hid hbr
    have HBr := Lib.hid hBr
    have HC := Lib.hid hC
    have HOK := Lib.hid hok
    clear hC hok hbr hBr
    by_cases hlt : k < n
    · obtain ⟨b, off, mn, md, mk, mS, mf, mt, ma, rfl, -, hb', hL, k0, k1, k2, k3, k4, k5, k6⟩ := (HM.out.below HBr.out).mv hlt
      rw [drop_cons hL] at hRk
      simp only [repl] at hRk
      have HRK := Lib.hid hRk
      clear hL hRk
      have hCM : CkIn (w.heap.size + 1) (wr.alloc (.cells #[.int .i64 mn, .int .i64 md, .int .i64 mk, .int .i64 mS, .int .i64 mf, .int .i64 mt, .int .i64 ma] 130)) secs hs k day (.slice a0 n0 c0) v := HC.out.below (bal brefl _)
      obtain ⟨wn, hwn⟩ : ∃ b, wantAll ⟨mn, md, mk, mS, mf, mt, ma⟩ = b := ⟨_, rfl⟩
      have HWN := Lib.hid hwn
      have HCM := Lib.hid hCM
      clear hwn hCM
      go_wp2_with fail
      refine (wantAll_any _ _ _ _ _ _ _ _).mono ?_
      rw [HWN.out]
      rintro e w1 ⟨rfl, hb1⟩
      have hC1 := HCM.out.below hb1
      have hB1 : Below (w.heap.size + 1) W w1 := (HBR.out.alloc (by omega) _).trans (hb1.mono (by simp; omega))
      have q0 := boxed_cell hb1 0 rfl
      have q1 := boxed_cell hb1 1 rfl
      have q2 := boxed_cell hb1 2 rfl
      have q3 := boxed_cell hb1 3 rfl
      have q4 := boxed_cell hb1 4 rfl
      have q5 := boxed_cell hb1 5 rfl
      have q6 := boxed_cell hb1 6 rfl
      have d2 := hC1.h2
      have HC1 := Lib.hid hC1
      have HB1 := Lib.hid hB1
      have z1 := hb1.size
      rw [World.size_alloc] at z1
      clear hC1 hB1 hb1
      cases wn
      · have hfin : R = (true, (k : Int), day, hs) := by rw [HRK.out, HWN.out]; rfl
        have HF := Lib.hid hfin
        clear hfin
        go_wp2
        go_ret2
        exact ⟨v, by rw [HF.out]; rfl, by rw [HF.out]; exact HC1.out, HBW.out.trans (HB1.out.mono (by omega))⟩
      have hR2 : R = if stepB secs k day hs ⟨mn, md, mk, mS, mf, mt, ma⟩ then repl secs wantAll (ms.drop (k + 1)) (k + 1) md (mvH hs ⟨mn, md, mk, mS, mf, mt, ma⟩) else (false, (k : Int), day, hs) := by rw [HRK.out, HWN.out]; rfl
      have HR2 := Lib.hid hR2
      clear hR2
      by_cases hnum : mn = (k : Int) + 1
      rotate_left
      · have hfin : R = (false, (k : Int), day, hs) := by
          rw [HR2.out, if_neg]
          intro q
          exact hnum (stepB_iff.1 q).1
        have HF := Lib.hid hfin
        have n1 : (mn != (k : Int) + 1) = true := by simpa using hnum
        have n2 : (mn == (k : Int) + 1) = false := by simpa using hnum
        clear hfin
        go_wp2
        go_quiet (fail)
        go_wp2
        go_ret2
        exact ⟨v, by rw [HF.out]; rfl, by rw [HF.out]; exact HC1.out.below (below_drewZ brefl _), below_drewZ (HBW.out.trans (HB1.out.mono (by omega))) _⟩
      subst hnum
      cases hkd : inB mk 1 3
      · have hfin : R = (false, (k : Int), day, hs) := by
          rw [HR2.out, if_neg]
          intro q
          have q2 := (stepB_iff.1 q).2.1
          rw [inB_not] at hkd
          exact hkd q2
        have HF := Lib.hid hfin
        clear hfin
        go_wp2
        go_quiet ((go_at_call 157; refine (amongR_any _ _ _ _).mono ?_; rw [hkd]; exact fun _ _ hh => ⟨hh.1, _, hh.2.symm⟩))
        go_wp2
        go_ret2
        exact ⟨v, by rw [HF.out]; rfl, by rw [HF.out]; exact HC1.out.below (below_drewZ brefl _), below_drewZ (HBW.out.trans (HB1.out.mono (by omega))) _⟩
      obtain ⟨E, hE⟩ : ∃ E, mvE secs hs day ⟨(k : Int) + 1, md, mk, mS, mf, mt, ma⟩ = E := ⟨_, rfl⟩
      obtain ⟨H2, hH2⟩ : ∃ H2, mvH hs ⟨(k : Int) + 1, md, mk, mS, mf, mt, ma⟩ = H2 := ⟨_, rfl⟩
      have hD : ∀ W, CkIn (w.heap.size + 1) W secs hs k day (.slice a0 n0 c0) v → _ := fun W hC => do_any (w.heap.size + 1) secs hs k day (.slice a0 n0 c0) v ((k : Int) + 1) md mk mS mf mt ma W hC hlen HOK.out (by omega) (by omega) (by omega) HSEC.out
      rw [hE, hH2] at hD
      have HD := Lib.hid hD
      have HE := Lib.hid hE
      have HH2 := Lib.hid hH2
      clear hE hH2 hD
      by_cases hE0 : E = 0
      · subst hE0
        have hst : stepB secs k day hs ⟨(k : Int) + 1, md, mk, mS, mf, mt, ma⟩ = true := by unfold stepB; rw [HE.out, hkd]; simp
        have hRn : R = repl secs wantAll (ms.drop (k + 1)) (k + 1) md H2 := by rw [HR2.out, if_pos hst, HH2.out]
        have HRN := Lib.hid hRn
        have hok2 : HsOk H2 := by rw [← HH2.out]; exact mvH_ok HOK.out (mvOk_iff.1 HE.out)
        have hl2 : H2.length ≤ 2 * (k + 1) := by rw [← HH2.out]; have := mvH_len hs ⟨(k : Int) + 1, md, mk, mS, mf, mt, ma⟩; omega
        have HOK2 := Lib.hid hok2
        have hwk : IntKind.i64.wrap ((k : Int) + 1) = (k : Int) + 1 := IntWalk.i64_in _ (by omega)
        clear hRn hok2 hst
        go_wp2
        go_region_with (first | (go_at_call 157; refine (amongR_any _ _ _ _).mono ?_; rw [hkd]; rintro e w2 ⟨rfl, rfl⟩) | (go_at_call 194; refine (HD.out _ ?_).mono ?_; (· exact HC1.out.below (bdr brefl)); rintro e w2 (⟨h1, -, -⟩ | ⟨-, rfl, ⟨v', hC2⟩, hb2⟩); (· exact absurd rfl h1); have HC2 := Lib.hid hC2; clear hC2))
        all_goals
          go_wp2
          go_roundw
          case rel => exact ⟨k + 1, md, H2, v', by omega, by go_num, by rw [show ((k + 1 : Nat) : Int) = (k : Int) + 1 by omega]; exact HC2.out, HOK2.out, hl2, by rw [show ((k + 1 : Nat) : Int) = (k : Int) + 1 by omega]; exact HRN.out, (bdr HB1.out).trans hb2⟩
          case measure => simp [intOf]; omega
      · have hst : ¬ stepB secs k day hs ⟨(k : Int) + 1, md, mk, mS, mf, mt, ma⟩ = true := by unfold stepB; rw [HE.out]; simp [hE0]
        have hfin : R = (false, (k : Int), day, hs) := by rw [HR2.out, if_neg hst]
        have HF := Lib.hid hfin
        have hE1 : (E != 0) = true := by simpa using hE0
        have hE2 : (E == 0) = false := by simpa using hE0
        have hwk : IntKind.i64.wrap ((k : Int) + 1) = (k : Int) + 1 := IntWalk.i64_in _ (by omega)
        clear hfin hst
        go_wp2
        go_region_with (first | (go_at_call 157; refine (amongR_any _ _ _ _).mono ?_; rw [hkd]; rintro e w2 ⟨rfl, rfl⟩) | (go_at_call 194; refine (HD.out _ ?_).mono ?_; (· exact HC1.out.below (bdr brefl)); rintro e w2 (⟨-, rfl, hb2⟩ | ⟨h1, -⟩); rotate_left; (· exact absurd h1 hE0)))
        all_goals
          go_wp2
          go_ret2
          exact ⟨v, by rw [HF.out]; rfl, by rw [HF.out]; exact (HC1.out.below (bdr brefl)).below hb2, (HBW.out.trans ((bdr HB1.out).mono (by omega))).trans (hb2.mono (by have := (bdr HB1.out).size; omega))⟩
    · have hkn : k = n := by omega
      subst hkn
      have hfin : R = (true, (k : Int), day, hs) := by rw [hRk, drop_all (by have := HN.out; omega)]; rfl
      have HF := Lib.hid hfin
      clear hfin hRk
      go_wp2
      go_ret2
      exact ⟨v, by rw [HF.out]; rfl, by rw [HF.out]; exact HC.out, HBr.out⟩
set_option maxHeartbeats 4000000 in
set_option maxRecDepth 100000 in
theorem replay_day (vs vh vm : Value) (secs : List Sec) (ms : List Mv) (dd : Int) (db : Nat) (w : World) (hS : Sl 7 encSec (fun _ => True) w vs secs) (hM : Sl 7 encMv (fun _ => True) w vm ms) (hlen : secs.length ≤ 1000000) (hml : ms.length ≤ 1000) (hvh : ∃ a n c, vh = .slice a n c) (hsec : ∀ s ∈ secs, secOk s = true) (hdb : w.cell? ⟨db, 0, none⟩ = some (.int .i64 dd)) :
    Calls Tryz.prog 161 #[.agg #[vs, vh, vm], .func (.func 162) #[] #[.pointer (some ⟨db, 0, none⟩)]] w (Replayed vs secs (repl secs (wantDay dd) ms 0 0 []) w) := by
  have HDB := Lib.hid hdb
  clear hdb
  obtain ⟨ao, n, c, rfl, hn, hnc, hcm⟩ := hM.shape
  obtain ⟨a0, n0, c0, rfl, -, -, -⟩ := hS.shape
  obtain ⟨ah, nh, ch, rfl⟩ := hvh
  have hn1 : n ≤ 1000 := by omega
  obtain ⟨R, hR⟩ : ∃ R, repl secs (wantDay dd) ms 0 0 [] = R := ⟨_, rfl⟩
  have HS := Lib.hid hS
  have HM := Lib.hid hM
  have HN := Lib.hid hn
  have HR := Lib.hid hR
  have HSEC := Lib.hid hsec
  rw [hR]
  clear hS hM hn hR hsec hml
  go_enter Tryz.func161, Tryz.ntmps161
  go_wp2
  obtain ⟨W, hW⟩ : ∃ W, W = ((w.alloc (.cells #[.slice a0 n0 c0, .slice ah nh ch, .slice ao n c] 31)).alloc (.cells #[.slice a0 n0 c0, .slice none 0 0, .int .i64 0, .int .i64 0] 182)) := ⟨_, rfl⟩
  have hbW : Below w.heap.size w W := by rw [hW]; exact bal (bal brefl _) _
  have zW : W.heap.size = w.heap.size + 2 := by rw [hW]; simp
  have hC0 : CkIn (w.heap.size + 1) W secs [] 0 0 (.slice a0 n0 c0) (.slice none 0 0) := by
    rw [hW]
    refine ⟨?_, ?_, ?_, ?_, ?_, ?_, ?_, ?_, World.ownsRow_nil _ _ _ _⟩
    · rw [World.cell?_alloc_at _ _ _ _ (by simp)]; rfl
    · rw [World.cell?_alloc_at _ _ _ _ (by simp)]; rfl
    · rw [World.cell?_alloc_at _ _ _ _ (by simp)]; rfl
    · rw [World.cell?_alloc_at _ _ _ _ (by simp)]; rfl
    · exact World.frozen?_alloc_at _ _ _ _ (by simp)
    · exact World.frozen?_alloc_at _ _ _ _ (by simp)
    · exact World.frozen?_alloc_at _ _ _ _ (by simp)
    · exact ((HS.out.mono (fun b _ hb => Nat.lt_succ_of_lt hb)).alloc _).alloc _
  have HC0 := Lib.hid hC0
  have HBW := Lib.hid hbW
  clear hC0 hbW
  go_loopw [16] (fun iv wr => ∃ (k : Nat) (day : Int) (hs : List Hold) (v : Value), k ≤ n ∧ iv = .int .i64 k ∧ CkIn (w.heap.size + 1) wr secs hs k day (.slice a0 n0 c0) v ∧ HsOk hs ∧ hs.length ≤ 2 * k ∧ R = repl secs (wantDay dd) (ms.drop k) k day hs ∧ Below (w.heap.size + 1) W wr) (fun iv _ => n - (intOf iv).toNat)
  case atStart => exact ⟨0, 0, [], _, by omega, rfl, by rw [hW] at HC0; exact HC0.out, HsOk.nil, by simp, by rw [List.drop_zero]; exact HR.out.symm, by rw [hW]; exact Below.refl _ _⟩
  case round =>
    obtain ⟨k, day, hs, v, hk, rfl, hC, hok, hhl, hRk, hbr⟩ := hrel
    have zr := hbr.size
    rw [zW] at zr
    have hBr : Below w.heap.size w wr := HBW.out.trans (hbr.mono (by omega))
    have HBR := Lib.hid hbr
    have HBr := Lib.hid hBr
    have HC := Lib.hid hC
    have HOK := Lib.hid hok
    clear hC hok hbr hBr
    by_cases hlt : k < n
    · obtain ⟨b, off, mn, md, mk, mS, mf, mt, ma, rfl, -, hb', hL, k0, k1, k2, k3, k4, k5, k6⟩ := (HM.out.below HBr.out).mv hlt
      rw [drop_cons hL] at hRk
      simp only [repl] at hRk
      have HRK := Lib.hid hRk
      clear hL hRk
      have hCM : CkIn (w.heap.size + 1) (wr.alloc (.cells #[.int .i64 mn, .int .i64 md, .int .i64 mk, .int .i64 mS, .int .i64 mf, .int .i64 mt, .int .i64 ma] 130)) secs hs k day (.slice a0 n0 c0) v := HC.out.below (bal brefl _)
      obtain ⟨wn, hwn⟩ : ∃ b, (wantDay dd) ⟨mn, md, mk, mS, mf, mt, ma⟩ = b := ⟨_, rfl⟩
      have HWN := Lib.hid hwn
      have HCM := Lib.hid hCM
      clear hwn hCM
      go_wp2_with fail
      refine (wantDay_any _ _ _ _ _ _ _ dd db _ (keepA (keepB HBr.out HDB.out))).mono ?_
      rw [HWN.out]
      rintro e w1 ⟨rfl, hb1⟩
      have hC1 := HCM.out.below hb1
      have hB1 : Below (w.heap.size + 1) W w1 := (HBR.out.alloc (by omega) _).trans (hb1.mono (by simp; omega))
      have q0 := boxed_cell hb1 0 rfl
      have q1 := boxed_cell hb1 1 rfl
      have q2 := boxed_cell hb1 2 rfl
      have q3 := boxed_cell hb1 3 rfl
      have q4 := boxed_cell hb1 4 rfl
      have q5 := boxed_cell hb1 5 rfl
      have q6 := boxed_cell hb1 6 rfl
      have d2 := hC1.h2
      have HC1 := Lib.hid hC1
      have HB1 := Lib.hid hB1
      have z1 := hb1.size
      rw [World.size_alloc] at z1
      clear hC1 hB1 hb1
      cases wn
      · have hfin : R = (true, (k : Int), day, hs) := by rw [HRK.out, HWN.out]; rfl
        have HF := Lib.hid hfin
        clear hfin
        go_wp2
        go_ret2
        exact ⟨v, by rw [HF.out]; rfl, by rw [HF.out]; exact HC1.out, HBW.out.trans (HB1.out.mono (by omega))⟩
      have hR2 : R = if stepB secs k day hs ⟨mn, md, mk, mS, mf, mt, ma⟩ then repl secs (wantDay dd) (ms.drop (k + 1)) (k + 1) md (mvH hs ⟨mn, md, mk, mS, mf, mt, ma⟩) else (false, (k : Int), day, hs) := by rw [HRK.out, HWN.out]; rfl
      have HR2 := Lib.hid hR2
      clear hR2
      by_cases hnum : mn = (k : Int) + 1
      rotate_left
      · have hfin : R = (false, (k : Int), day, hs) := by
          rw [HR2.out, if_neg]
          intro q
          exact hnum (stepB_iff.1 q).1
        have HF := Lib.hid hfin
        have n1 : (mn != (k : Int) + 1) = true := by simpa using hnum
        have n2 : (mn == (k : Int) + 1) = false := by simpa using hnum
        clear hfin
        go_wp2
        go_quiet (fail)
        go_wp2
        go_ret2
        exact ⟨v, by rw [HF.out]; rfl, by rw [HF.out]; exact HC1.out.below (below_drewZ brefl _), below_drewZ (HBW.out.trans (HB1.out.mono (by omega))) _⟩
      subst hnum
      cases hkd : inB mk 1 3
      · have hfin : R = (false, (k : Int), day, hs) := by
          rw [HR2.out, if_neg]
          intro q
          have q2 := (stepB_iff.1 q).2.1
          rw [inB_not] at hkd
          exact hkd q2
        have HF := Lib.hid hfin
        clear hfin
        go_wp2
        go_quiet ((go_at_call 157; refine (amongR_any _ _ _ _).mono ?_; rw [hkd]; exact fun _ _ hh => ⟨hh.1, _, hh.2.symm⟩))
        go_wp2
        go_ret2
        exact ⟨v, by rw [HF.out]; rfl, by rw [HF.out]; exact HC1.out.below (below_drewZ brefl _), below_drewZ (HBW.out.trans (HB1.out.mono (by omega))) _⟩
      obtain ⟨E, hE⟩ : ∃ E, mvE secs hs day ⟨(k : Int) + 1, md, mk, mS, mf, mt, ma⟩ = E := ⟨_, rfl⟩
      obtain ⟨H2, hH2⟩ : ∃ H2, mvH hs ⟨(k : Int) + 1, md, mk, mS, mf, mt, ma⟩ = H2 := ⟨_, rfl⟩
      have hD : ∀ W, CkIn (w.heap.size + 1) W secs hs k day (.slice a0 n0 c0) v → _ := fun W hC => do_any (w.heap.size + 1) secs hs k day (.slice a0 n0 c0) v ((k : Int) + 1) md mk mS mf mt ma W hC hlen HOK.out (by omega) (by omega) (by omega) HSEC.out
      rw [hE, hH2] at hD
      have HD := Lib.hid hD
      have HE := Lib.hid hE
      have HH2 := Lib.hid hH2
      clear hE hH2 hD
      by_cases hE0 : E = 0
      · subst hE0
        have hst : stepB secs k day hs ⟨(k : Int) + 1, md, mk, mS, mf, mt, ma⟩ = true := by unfold stepB; rw [HE.out, hkd]; simp
        have hRn : R = repl secs (wantDay dd) (ms.drop (k + 1)) (k + 1) md H2 := by rw [HR2.out, if_pos hst, HH2.out]
        have HRN := Lib.hid hRn
        have hok2 : HsOk H2 := by rw [← HH2.out]; exact mvH_ok HOK.out (mvOk_iff.1 HE.out)
        have hl2 : H2.length ≤ 2 * (k + 1) := by rw [← HH2.out]; have := mvH_len hs ⟨(k : Int) + 1, md, mk, mS, mf, mt, ma⟩; omega
        have HOK2 := Lib.hid hok2
        have hwk : IntKind.i64.wrap ((k : Int) + 1) = (k : Int) + 1 := IntWalk.i64_in _ (by omega)
        clear hRn hok2 hst
        go_wp2
        go_region_with (first | (go_at_call 157; refine (amongR_any _ _ _ _).mono ?_; rw [hkd]; rintro e w2 ⟨rfl, rfl⟩) | (go_at_call 194; refine (HD.out _ ?_).mono ?_; (· exact HC1.out.below (bdr brefl)); rintro e w2 (⟨h1, -, -⟩ | ⟨-, rfl, ⟨v', hC2⟩, hb2⟩); (· exact absurd rfl h1); have HC2 := Lib.hid hC2; clear hC2))
        all_goals
          go_wp2
          go_roundw
          case rel => exact ⟨k + 1, md, H2, v', by omega, by go_num, by rw [show ((k + 1 : Nat) : Int) = (k : Int) + 1 by omega]; exact HC2.out, HOK2.out, hl2, by rw [show ((k + 1 : Nat) : Int) = (k : Int) + 1 by omega]; exact HRN.out, (bdr HB1.out).trans hb2⟩
          case measure => simp [intOf]; omega
      · have hst : ¬ stepB secs k day hs ⟨(k : Int) + 1, md, mk, mS, mf, mt, ma⟩ = true := by unfold stepB; rw [HE.out]; simp [hE0]
        have hfin : R = (false, (k : Int), day, hs) := by rw [HR2.out, if_neg hst]
        have HF := Lib.hid hfin
        have hE1 : (E != 0) = true := by simpa using hE0
        have hE2 : (E == 0) = false := by simpa using hE0
        have hwk : IntKind.i64.wrap ((k : Int) + 1) = (k : Int) + 1 := IntWalk.i64_in _ (by omega)
        clear hfin hst
        go_wp2
        go_region_with (first | (go_at_call 157; refine (amongR_any _ _ _ _).mono ?_; rw [hkd]; rintro e w2 ⟨rfl, rfl⟩) | (go_at_call 194; refine (HD.out _ ?_).mono ?_; (· exact HC1.out.below (bdr brefl)); rintro e w2 (⟨-, rfl, hb2⟩ | ⟨h1, -⟩); rotate_left; (· exact absurd h1 hE0)))
        all_goals
          go_wp2
          go_ret2
          exact ⟨v, by rw [HF.out]; rfl, by rw [HF.out]; exact (HC1.out.below (bdr brefl)).below hb2, (HBW.out.trans ((bdr HB1.out).mono (by omega))).trans (hb2.mono (by have := (bdr HB1.out).size; omega))⟩
    · have hkn : k = n := by omega
      subst hkn
      have hfin : R = (true, (k : Int), day, hs) := by rw [hRk, drop_all (by have := HN.out; omega)]; rfl
      have HF := Lib.hid hfin
      clear hfin hRk
      go_wp2
      go_ret2
      exact ⟨v, by rw [HF.out]; rfl, by rw [HF.out]; exact HC.out, HBr.out⟩
end Go.Proofs.YthhoaefadfeknaaGreat
namespace Go.Proofs.YthhoaefadfeknaaGreat
open Go.RowKit
set_option linter.unusedVariables false
set_option linter.unusedSimpArgs false

/-- a register that lies in w -/
structure RgIn (P : Nat → Prop) (w : World) (vs vh vm : Value) (R : Reg) : Prop where
  S : Sl 7 encSec P w vs R.secs
  H : Sl 3 encHold P w vh R.hs
  M : Sl 7 encMv P w vm R.ms
theorem RgIn.below {P : Nat → Prop} {w w' : World} {vs vh vm : Value} {R : Reg} (h : RgIn P w vs vh vm R) (hb : Below w.heap.size w w') : RgIn P w' vs vh vm R := ⟨h.S.below hb, h.H.below hb, h.M.below hb⟩
theorem RgIn.mono {P Q : Nat → Prop} {w : World} {vs vh vm : Value} {R : Reg} (h : RgIn P w vs vh vm R) (hq : ∀ b, P b → b < w.heap.size → Q b) : RgIn Q w vs vh vm R := ⟨h.S.mono hq, h.H.mono hq, h.M.mono hq⟩
theorem RgIn.grown {P : Nat → Prop} {w w' : World} {vs vh vm : Value} {R : Reg} {x : Nat} (h : RgIn P w vs vh vm R) (hg : w.grownBy w' (some x)) (hp : ∀ b, P b → b ≠ x) : RgIn P w' vs vh vm R := ⟨h.S.grown hg hp, h.H.grown hg hp, h.M.grown hg hp⟩
theorem RgIn.any {P : Nat → Prop} {w : World} {vs vh vm : Value} {R : Reg} (h : RgIn P w vs vh vm R) : RgIn (fun _ => True) w vs vh vm R := h.mono fun _ _ _ => trivial
set_option maxHeartbeats 2000000 in
theorem eqHs_any (P : Nat → Prop) (v v' : Value) (L M : List Hold) (w : World) (h : Sl 3 encHold P w v L) (h' : Sl 3 encHold P w v' M) (hl : L.length ≤ 1000000) :
    Calls Tryz.prog 168 #[v, v'] w fun e w' => e = .returned (.bool (eqHs L M)) ∧ ∃ nq, w' = w.drewN nq := by
  obtain ⟨ao, n, c, rfl, hn, hnc, hcm⟩ := h.shape
  obtain ⟨ao', n', c', rfl, hn', hnc', hcm'⟩ := h'.shape
  have hn1 : n ≤ 1000000 := by omega
  obtain ⟨r, hr⟩ : ∃ r, eqHs L M = r := ⟨_, rfl⟩
  rw [hr]
  have H := Lib.hid h
  have H' := Lib.hid h'
  have HN := Lib.hid hn
  have HN' := Lib.hid hn'
  have HR := Lib.hid hr
  clear h h' hn hn' hr hl
  by_cases he : n = n'
  rotate_left
  · have hf : r = false := by
      cases r
      · rfl
      · have := congrArg List.length (eqHs_iff.1 HR.out)
        rw [HN.out, HN'.out] at this
        exact absurd this he
    subst hf
    have he1 : ((n : Int) != (n' : Int)) = true := by simp; omega
    have he2 : ((n : Int) == (n' : Int)) = false := by simp; omega
    have he3 : ¬ (n : Int) = (n' : Int) := by omega
    go_enter Tryz.func168, Tryz.ntmps168
    go_wp2
    go_ret
    exact ⟨rfl, 0, rfl⟩
  subst he
  go_enter Tryz.func168, Tryz.ntmps168
  go_wp2
  go_loopw [13] (fun iv wr => ∃ k : Nat, k ≤ n ∧ iv = .int .i64 k ∧ r = eqHs (L.drop k) (M.drop k) ∧ ∃ nq, wr = w.drewN nq) (fun iv _ => n - (intOf iv).toNat)
  case atStart => exact ⟨0, by omega, rfl, by rw [List.drop_zero, List.drop_zero]; exact HR.out.symm, 0, rfl⟩
  case round =>
    obtain ⟨k, hk, rfl, hrk, nq, rfl⟩ := hrel
    by_cases hlt : k < n
    · obtain ⟨b, off, xs, xh, xa, rfl, -, -, hL, k0, k1, k2⟩ := H.out.hold hlt
      obtain ⟨b', off', ys, yh, ya, rfl, -, -, hM, j0, j1, j2⟩ := H'.out.hold hlt
      rw [drop_cons hL, drop_cons hM] at hrk
      simp only [eqHs] at hrk
      have HRK := Lib.hid hrk
      have hkn : (k : Int) < n := by omega
      clear hrk hL hM
      by_cases e1 : xs = ys
      · by_cases e2 : xh = yh
        · by_cases e3 : xa = ya
          · subst e1 e2 e3
            have hrel2 := Lib.hid (show r = eqHs (L.drop (k + 1)) (M.drop (k + 1)) by rw [HRK.out]; simp)
            go_wp2
            go_quiet (fail)
            go_wp2
            go_roundw
            case rel => exact ⟨k + 1, by omega, by go_num, hrel2.out, _, rfl⟩
            case measure => simp [intOf]; omega
          · have hf : r = false := by rw [HRK.out]; simp [e3]
            subst hf
            subst e1 e2
            have q1 : (xa == ya) = false := by simpa using e3
            go_wp2
            go_quiet (fail)
            go_wp2
            go_ret
            exact ⟨rfl, _, World.drewN_drewN ..⟩
        · have hf : r = false := by rw [HRK.out]; simp [e2]
          subst hf
          subst e1
          have q1 : (xh == yh) = false := by simpa using e2
          go_wp2
          go_quiet (fail)
          go_wp2
          go_ret
          exact ⟨rfl, _, World.drewN_drewN ..⟩
      · have hf : r = false := by rw [HRK.out]; simp [e1]
        subst hf
        have q1 : (xs == ys) = false := by simpa using e1
        go_wp2
        go_quiet (fail)
        go_wp2
        go_ret
        exact ⟨rfl, _, World.drewN_drewN ..⟩
    · have hf : r = true := by rw [hrk, drop_all (by have := HN.out; omega), drop_all (by have := HN'.out; omega)]; rfl
      subst hf
      clear hrk
      go_wp2
      go_ret
      exact ⟨rfl, _, rfl⟩
theorem drewAdd {w w' : World} {n : Nat} (h : ∃ m, w' = (w.drewN n).drewN m) : ∃ m, w' = w.drewN m := by
  obtain ⟨m, rfl⟩ := h
  exact ⟨_, World.drewN_drewN ..⟩
/-- the security in a slice, whole -/
theorem secsB_cons {p : Int} {s : Sec} {L : List Sec} : secsB p (s :: L) = (secOk s && (decide (p < s.id) && secsB s.id L)) := rfl
theorem secOk_id {s : Sec} (h : secOk s = true) : 1 ≤ s.id := (secB_iff.1 h).id0
set_option maxHeartbeats 4000000 in
set_option maxRecDepth 100000 in
theorem check_any (P : Nat → Prop) (vs vh vm : Value) (R : Reg) (w : World) (h : RgIn P w vs vh vm R) (hS : R.secs.length ≤ 1000000) (hH : R.hs.length ≤ 1000000) (hM : R.ms.length ≤ 1000000) :
    Calls Tryz.prog 101 #[.agg #[vs, vh, vm]] w fun e w' => e = .returned (.int .i64 (chkE R)) ∧ Below w.heap.size w w' := by
  obtain ⟨a0, n0, c0, rfl, hn0, hnc0, hcm0⟩ := h.S.shape
  obtain ⟨a1, n1, c1, rfl, hn1, hnc1, hcm1⟩ := h.H.shape
  obtain ⟨a2, n2, c2, rfl, hn2, hnc2, hcm2⟩ := h.M.shape
  obtain ⟨E, hE⟩ : ∃ E, chkE R = E := ⟨_, rfl⟩
  rw [hE]
  have HE := Lib.hid (show E = if 20 < n0 ∨ 400 < n2 then 3 else if secsB 0 R.secs then (if movesB R then 0 else 78) else 78 by rw [← hE, ← hn0, ← hn2]; rfl)
  have HH := Lib.hid h
  have HN0 := Lib.hid hn0
  have HN2 := Lib.hid hn2
  have HN1 := Lib.hid hn1
  have b0 : n0 ≤ 1000000 := by omega
  have b1 : n1 ≤ 1000000 := by omega
  have b2 : n2 ≤ 1000000 := by omega
  clear h hn0 hn1 hn2 hE hS hM
  by_cases h1 : 20 < n0
  · have hf : E = 3 := by rw [HE.out, if_pos (.inl h1)]
    subst hf
    go_enter Tryz.func101, Tryz.ntmps101
    go_wp2
    go_ret
    exact ⟨rfl, bal brefl _⟩
  by_cases h2 : 400 < n2
  · have hf : E = 3 := by rw [HE.out, if_pos (.inr h2)]
    subst hf
    go_enter Tryz.func101, Tryz.ntmps101
    go_wp2
    go_ret
    exact ⟨rfl, bal brefl _⟩
  have HE2 := Lib.hid (show E = if secsB 0 R.secs then (if movesB R then 0 else 78) else 78 by rw [HE.out, if_neg (by omega)])
  clear HE
  go_enter Tryz.func101, Tryz.ntmps101
  go_wp2
  obtain ⟨W, hW⟩ : ∃ W, W = w.alloc (.cells #[.slice a0 n0 c0, .slice a1 n1 c1, .slice a2 n2 c2] 31) := ⟨_, rfl⟩
  have hbW : Below w.heap.size w W := by rw [hW]; exact bal brefl _
  have zW : W.heap.size = w.heap.size + 1 := by rw [hW]; simp
  have r0 : W.cell? ⟨w.heap.size, 0, none⟩ = some (.slice a0 n0 c0) := by rw [hW, World.cell?_alloc_at _ _ _ _ rfl]; rfl
  have r1 : W.cell? ⟨w.heap.size, 1, none⟩ = some (.slice a1 n1 c1) := by rw [hW, World.cell?_alloc_at _ _ _ _ rfl]; rfl
  have r2 : W.cell? ⟨w.heap.size, 2, none⟩ = some (.slice a2 n2 c2) := by rw [hW, World.cell?_alloc_at _ _ _ _ rfl]; rfl
  have R0 := Lib.hid r0
  have R1 := Lib.hid r1
  have R2 := Lib.hid r2
  have HBW := Lib.hid hbW
  have HWW := Lib.hid hW
  clear r0 r1 r2 hbW hW
  go_loopw [20] (fun iv wr => ∃ (k : Nat) (p : Int), k ≤ n0 ∧ iv = .int .i64 k ∧ ((k = 0 ∧ p = 0) ∨ ∃ s, 0 < k ∧ R.secs[k - 1]? = some s ∧ p = s.id) ∧ secsB 0 R.secs = secsB p (R.secs.drop k) ∧ (∀ s ∈ R.secs.take k, secOk s = true) ∧ Below W.heap.size W wr) (fun iv _ => n0 - (intOf iv).toNat)
  case atStart => exact ⟨0, 0, by omega, rfl, .inl ⟨rfl, rfl⟩, by rw [List.drop_zero], by simp, by rw [HWW.out]; exact Below.refl _ _⟩
  case round =>
    obtain ⟨k, p, hk, rfl, hp, hrk, hall, hbr⟩ := hrel
    have zr := hbr.size
    rw [zW] at zr
    have hBr : Below w.heap.size w wr := HBW.out.trans (hbr.mono (by omega))
    have r0 := keepB hbr R0.out
    have r1 := keepB hbr R1.out
    have r2 := keepB hbr R2.out
    have HBR := Lib.hid hbr
    have HBr := Lib.hid hBr
    have HRG := Lib.hid (HH.out.below hBr)
    have HRK := Lib.hid hrk
    have HALL := Lib.hid hall
    have HP := Lib.hid hp
    clear hbr hBr hrk hall hp
    by_cases hlt : k < n0
    · obtain ⟨b, off, sid, sun, sis, sma, sra, sev, six, rfl, -, hb', hL, k0, k1, k2, k3, k4, k5, k6⟩ := HRG.out.S.sec hlt
      have hrk := HRK.out
      rw [drop_cons hL, secsB_cons] at hrk
      have HRK2 := Lib.hid hrk
      have HLk := Lib.hid hL
      clear hrk hL
      obtain ⟨ok, hok⟩ : ∃ b, secB sid sun sis sma sra sev = b := ⟨_, rfl⟩
      have HOK := Lib.hid hok
      clear hok
      have s0 : (wr.alloc (.cells #[.int .i64 sid, .int .i64 sun, .int .i64 sis, .int .i64 sma, .int .i64 sra, .int .i64 sev, .bool six] 26)).cell? ⟨wr.heap.size, 0, none⟩ = some (.int .i64 sid) := (World.cell?_alloc_at _ _ _ _ rfl).trans rfl
      have s1 : (wr.alloc (.cells #[.int .i64 sid, .int .i64 sun, .int .i64 sis, .int .i64 sma, .int .i64 sra, .int .i64 sev, .bool six] 26)).cell? ⟨wr.heap.size, 1, none⟩ = some (.int .i64 sun) := (World.cell?_alloc_at _ _ _ _ rfl).trans rfl
      have s2 : (wr.alloc (.cells #[.int .i64 sid, .int .i64 sun, .int .i64 sis, .int .i64 sma, .int .i64 sra, .int .i64 sev, .bool six] 26)).cell? ⟨wr.heap.size, 2, none⟩ = some (.int .i64 sis) := (World.cell?_alloc_at _ _ _ _ rfl).trans rfl
      have s3 : (wr.alloc (.cells #[.int .i64 sid, .int .i64 sun, .int .i64 sis, .int .i64 sma, .int .i64 sra, .int .i64 sev, .bool six] 26)).cell? ⟨wr.heap.size, 3, none⟩ = some (.int .i64 sma) := (World.cell?_alloc_at _ _ _ _ rfl).trans rfl
      have s4 : (wr.alloc (.cells #[.int .i64 sid, .int .i64 sun, .int .i64 sis, .int .i64 sma, .int .i64 sra, .int .i64 sev, .bool six] 26)).cell? ⟨wr.heap.size, 4, none⟩ = some (.int .i64 sra) := (World.cell?_alloc_at _ _ _ _ rfl).trans rfl
      have s5 : (wr.alloc (.cells #[.int .i64 sid, .int .i64 sun, .int .i64 sis, .int .i64 sma, .int .i64 sra, .int .i64 sev, .bool six] 26)).cell? ⟨wr.heap.size, 5, none⟩ = some (.int .i64 sev) := (World.cell?_alloc_at _ _ _ _ rfl).trans rfl
      have s6 : (wr.alloc (.cells #[.int .i64 sid, .int .i64 sun, .int .i64 sis, .int .i64 sma, .int .i64 sra, .int .i64 sev, .bool six] 26)).cell? ⟨wr.heap.size, 6, none⟩ = some (.bool six) := (World.cell?_alloc_at _ _ _ _ rfl).trans rfl
      have u0 := up_cell s0
      have u1 := up_cell s1
      have u2 := up_cell s2
      have u3 := up_cell s3
      have u4' := up_cell s4
      have u5 := up_cell s5
      have u6 := up_cell s6
      clear s0 s1 s2 s3 s4 s5 s6
      cases ok
      · have hf : E = 78 := by rw [HE2.out, HRK2.out]; simp [secOk, HOK.out]
        subst hf
        go_wp2
        (refine wp_region_up (by kernel_rfl) (by kernel_rfl) ?_); (repeat (go_big_quiet_step ((go_at_call 90; refine (security_any _ _ _ _ _ _ _ _).mono ?_; rw [HOK.out]; exact fun _ _ hh => ⟨hh.1, ⟨_, bup (Subtype.property _) hh.2⟩, rfl⟩)))); (refine wpQuiet_nil ?_); (rintro w1 ⟨⟨_, hb1⟩, rfl⟩)

        go_wp2
        go_ret
        exact ⟨rfl, bup HBr.out ((bal brefl _).trans (hb1.mono (by simp)))⟩
      · have hid := secOk_id (s := ⟨sid, sun, sis, sma, sra, sev, six⟩) HOK.out
        simp only at hid
        rcases HP.out with ⟨hk0, hp0⟩ | ⟨s, hk0, hsp, hp0⟩
        · subst hp0
          have HK0 := Lib.hid hk0
          have hk1 : (k : Int) ≤ 0 := by omega
          clear hk0
          have hst := Lib.hid (show secsB 0 R.secs = secsB sid (R.secs.drop (k + 1)) by rw [HRK2.out]; simp only [secOk, HOK.out, Bool.true_and]; rw [decide_eq_true (by omega), Bool.true_and])
          have hal := Lib.hid (show ∀ s ∈ R.secs.take (k + 1), secOk s = true from fun s hs => by
            rw [take_snocZ HLk.out, HK0.out] at hs
            simp only [List.take_zero, List.nil_append, List.mem_singleton] at hs
            subst hs; exact HOK.out)
          have hgd : decide (0 < k) = false := by simp; omega
          go_wp2
          (refine wp_region_up (by kernel_rfl) (by kernel_rfl) ?_); (repeat (go_big_quiet_step ((go_at_call 90; refine (security_any _ _ _ _ _ _ _ _).mono ?_; rw [HOK.out]; exact fun _ _ hh => ⟨hh.1, ⟨_, bup (Subtype.property _) hh.2⟩, rfl⟩)))); (refine wpQuiet_nil ?_); (rintro w1 ⟨⟨_, hb1⟩, rfl⟩)
          go_wp2
          go_roundw
          case rel => exact ⟨k + 1, sid, by omega, by go_num, .inr ⟨⟨sid, sun, sis, sma, sra, sev, six⟩, by omega, by have := HLk.out; simpa using this, rfl⟩, hst.out, hal.out, (HBR.out.alloc (by omega) _).trans (hb1.mono (by simp; omega))⟩
          case measure => simp [intOf]; omega
        · obtain ⟨m, rfl⟩ : ∃ m, k = m + 1 := ⟨k - 1, by omega⟩
          simp only [Nat.add_sub_cancel] at hsp hp0
          obtain ⟨b2, off2, pid, pun, pis, pma, pra, pev, pix, he2, -, hb2, hL2, j0, j1, j2, j3, j4, j5, j6⟩ := HRG.out.S.sec (k := m) (by omega)
          cases he2
          rw [hsp] at hL2
          cases hL2
          simp only at hp0
          obtain rfl : p = pid := hp0
          have v0 := up_cell (keepA j0 (o := .cells #[.int .i64 sid, .int .i64 sun, .int .i64 sis, .int .i64 sma, .int .i64 sra, .int .i64 sev, .bool six] 26))
          have v1 := up_cell (keepA r0 (o := .cells #[.int .i64 sid, .int .i64 sun, .int .i64 sis, .int .i64 sma, .int .i64 sra, .int .i64 sev, .bool six] 26))
          have hw1 : IntKind.i64.wrap (((m + 1 : Nat) : Int) - 1) = m := (IntWalk.i64_in _ (by omega)).trans (by omega)
          have hw2 : IntKind.i64.wrap ((m : Int) + 1 - 1) = m := (IntWalk.i64_in _ (by omega)).trans (by omega)
          have hmn : (m : Int) < n0 := by omega
          have hgd : decide (((m : Int) + 1) > 0) = true := decide_eq_true (by omega)
          by_cases hlt2 : p < sid
          · have hst := Lib.hid (show secsB 0 R.secs = secsB sid (R.secs.drop (m + 1 + 1)) by rw [HRK2.out]; simp only [secOk, HOK.out, Bool.true_and]; rw [decide_eq_true hlt2, Bool.true_and])
            have hal := Lib.hid (show ∀ s ∈ R.secs.take (m + 1 + 1), secOk s = true from fun s hs => by
              rw [take_snocZ HLk.out] at hs
              rcases List.mem_append.1 hs with hs | hs
              · exact HALL.out s hs
              · simp only [List.mem_singleton] at hs
                subst hs; exact HOK.out)
            have hge : decide (sid ≤ p) = false := by simp; omega
            go_wp2
            (refine wp_region_up (by kernel_rfl) (by kernel_rfl) ?_); (repeat (go_big_quiet_step ((go_at_call 90; refine (security_any _ _ _ _ _ _ _ _).mono ?_; rw [HOK.out]; exact fun _ _ hh => ⟨hh.1, ⟨_, bup (Subtype.property _) hh.2⟩, rfl⟩)))); (refine wpQuiet_nil ?_); (rintro w1 ⟨⟨_, hb1⟩, rfl⟩)
            go_wp2
            go_roundw
            case rel => exact ⟨m + 1 + 1, sid, by omega, by go_num, .inr ⟨⟨sid, sun, sis, sma, sra, sev, six⟩, by omega, by have := HLk.out; simpa using this, rfl⟩, hst.out, hal.out, (HBR.out.alloc (by omega) _).trans (hb1.mono (by simp; omega))⟩
            case measure => simp [intOf]; omega
          · have hf : E = 78 := by rw [HE2.out, HRK2.out]; simp [secOk, HOK.out, hlt2]
            subst hf
            have hge : decide (sid ≤ p) = true := by simp; omega
            go_wp2
            (refine wp_region_up (by kernel_rfl) (by kernel_rfl) ?_); (repeat (go_big_quiet_step ((go_at_call 90; refine (security_any _ _ _ _ _ _ _ _).mono ?_; rw [HOK.out]; exact fun _ _ hh => ⟨hh.1, ⟨_, bup (Subtype.property _) hh.2⟩, rfl⟩)))); (refine wpQuiet_nil ?_); (rintro w1 ⟨⟨_, hb1⟩, rfl⟩)
            go_wp2
            go_ret
            exact ⟨rfl, bup HBr.out ((bal brefl _).trans (hb1.mono (by simp)))⟩
    · have hkn : k = n0 := by omega
      subst hkn
      have hsb : secsB 0 R.secs = true := by rw [HRK.out, drop_all (by have := HN0.out; omega)]; rfl
      have hsec : ∀ s ∈ R.secs, secOk s = true := by
        have q := HALL.out
        rw [take_all (by have := HN0.out; omega)] at q
        exact q
      have HE3 := Lib.hid (show E = if movesB R then 0 else 78 by rw [HE2.out, if_pos hsb])
      have hD := replay_all (.slice a0 k c0) (.slice a1 n1 c1) (.slice a2 n2 c2) R.secs R.ms wr HRG.out.any.S HRG.out.any.M (by have := HN0.out; omega) (by have := HN2.out; omega) ⟨_, _, _, rfl⟩ hsec
      obtain ⟨Q, hQ⟩ : ∃ Q, repl R.secs wantAll R.ms 0 0 [] = Q := ⟨_, rfl⟩
      have hQl := repl_len R.secs wantAll R.ms 0 0 []
      rw [hQ] at hD hQl
      have HD := Lib.hid hD
      have HQ := Lib.hid hQ
      have hQl2 : Q.2.2.2.length ≤ 1000000 := by have := HN2.out; simp only [List.length_nil] at hQl; omega
      have HQL := Lib.hid hQl2
      clear hsb hsec hD hQ hQl hQl2
      go_wp2_with fail
      refine HD.out.mono ?_
      rintro e w1 ⟨v', rfl, hC, hb1⟩
      have HC := Lib.hid hC
      have HB1 := Lib.hid hb1
      have t1 := keepB hb1 r1
      have hRG1 := Lib.hid (HRG.out.below hb1)
      have SLv := Lib.hid (Sl.own encHold_len hC.O rfl (fun _ _ => trivial) : Sl 3 encHold (fun _ => True) w1 v' Q.2.2.2)
      have d1 := hC.h1
      clear hC hb1
      have HE4 := Lib.hid (show E = if (Q.1 && eqHs Q.2.2.2 R.hs) then 0 else 78 by rw [HE3.out]; unfold movesB; rw [HQ.out])
      obtain ⟨q1, hq1⟩ : ∃ b, Q.1 = b := ⟨_, rfl⟩
      have HQ1 := Lib.hid hq1
      rw [hq1]
      clear hq1
      cases q1
      · have hf : E = 78 := by rw [HE4.out, HQ1.out]; rfl
        subst hf
        go_wp2
        go_quiet (fail)
        go_wp2
        go_ret
        exact ⟨rfl, below_drewZ (bup HBr.out HB1.out) _⟩
      · obtain ⟨q2, hq2⟩ : ∃ b, eqHs Q.2.2.2 R.hs = b := ⟨_, rfl⟩
        have HQ2 := Lib.hid hq2
        clear hq2
        cases q2
        · have hf : E = 78 := by rw [HE4.out, HQ1.out, HQ2.out]; rfl
          subst hf
          go_wp2
          go_quiet ((go_at_call 168; refine (eqHs_any (fun _ => True) _ _ Q.2.2.2 R.hs _ (SLv.out.drewN _) (hRG1.out.any.H.drewN _) HQL.out).mono ?_; rw [HQ2.out]; exact fun _ _ hh => ⟨hh.1, drewAdd hh.2⟩))
          go_wp2
          go_ret
          exact ⟨rfl, below_drewZ (bup HBr.out HB1.out) _⟩
        · have hf : E = 0 := by rw [HE4.out, HQ1.out, HQ2.out]; rfl
          subst hf
          go_wp2
          go_quiet ((go_at_call 168; refine (eqHs_any (fun _ => True) _ _ Q.2.2.2 R.hs _ (SLv.out.drewN _) (hRG1.out.any.H.drewN _) HQL.out).mono ?_; rw [HQ2.out]; exact fun _ _ hh => ⟨hh.1, drewAdd hh.2⟩))
          go_wp2
          go_ret
          exact ⟨rfl, below_drewZ (bup HBr.out HB1.out) _⟩
end Go.Proofs.YthhoaefadfeknaaGreat
namespace Go.Proofs.YthhoaefadfeknaaGreat
open Go.RowKit
set_option linter.unusedVariables false
set_option linter.unusedSimpArgs false

/-- a register that is right -/
structure RgOk (R : Reg) : Prop where
  ls : R.secs.length ≤ 20
  lm : R.ms.length ≤ 400
  secs : secsB 0 R.secs = true
  ok : (repl R.secs wantAll R.ms 0 0 []).1 = true
  hs : (repl R.secs wantAll R.ms 0 0 []).2.2.2 = R.hs
theorem chkE_iff {R : Reg} : chkE R = 0 ↔ RgOk R := by
  unfold chkE movesB
  constructor
  · intro h
    by_cases h1 : 20 < R.secs.length ∨ 400 < R.ms.length
    · rw [if_pos h1] at h; omega
    · rw [if_neg h1] at h
      by_cases h2 : secsB 0 R.secs = true
      · rw [if_pos h2] at h
        by_cases h3 : ((repl R.secs wantAll R.ms 0 0 []).1 && eqHs (repl R.secs wantAll R.ms 0 0 []).2.2.2 R.hs) = true
        · rw [Bool.and_eq_true, eqHs_iff] at h3
          exact ⟨by omega, by omega, h2, h3.1, h3.2⟩
        · rw [if_neg h3] at h; omega
      · rw [if_neg h2] at h; omega
  · rintro ⟨h1, h2, h3, h4, h5⟩
    rw [if_neg (by omega), if_pos h3, h4, eqHs_iff.2 h5]; rfl
theorem RgOk.hok {R : Reg} (h : RgOk R) : HsOk R.hs := by
  have := repl_ok R.secs wantAll R.ms 0 0 [] HsOk.nil
  rw [h.hs] at this; exact this
theorem RgOk.hl {R : Reg} (h : RgOk R) : R.hs.length ≤ 800 := by
  have := repl_len R.secs wantAll R.ms 0 0 []
  rw [h.hs] at this
  have := h.lm
  simp only [List.length_nil] at *
  omega
theorem RgOk.sec {R : Reg} (h : RgOk R) : ∀ s ∈ R.secs, secOk s = true := secsB_all h.secs
def rgHeld (R : Reg) (s h : Int) : Int := if chkE R = 0 then heldH R.hs s h else 0
def rgOut (R : Reg) (s : Int) : Int := if chkE R = 0 then outH R.hs s else 0
def rgDebt (R : Reg) : Int := if chkE R = 0 then sumH R.hs else 0
def rgAt (R : Reg) (day : Int) : List Hold := if chkE R = 0 then (repl R.secs (wantDay day) R.ms 0 0 []).2.2.2 else []
set_option maxHeartbeats 1000000 in
theorem rheld_any (P : Nat → Prop) (vs vh vm : Value) (R : Reg) (s h : Int) (w : World) (hr : RgIn P w vs vh vm R) (hS : R.secs.length ≤ 1000000) (hH : R.hs.length ≤ 1000000) (hM : R.ms.length ≤ 1000000) :
    Calls Tryz.prog 112 #[.agg #[vs, vh, vm], .int .i64 s, .int .i64 h] w fun e w' => e = .returned (.int .i64 (rgHeld R s h)) ∧ Below w.heap.size w w' := by
  obtain ⟨a0, n0, c0, rfl, -, -, -⟩ := hr.S.shape
  obtain ⟨a1, n1, c1, rfl, -, -, -⟩ := hr.H.shape
  obtain ⟨a2, n2, c2, rfl, -, -, -⟩ := hr.M.shape
  have HC := Lib.hid (fun W hW => check_any P _ _ _ R W (hr.below (w' := W) hW) hS hH hM)
  have HR := Lib.hid hr
  obtain ⟨E, hE⟩ : ∃ E, chkE R = E := ⟨_, rfl⟩
  obtain ⟨Q, hQ⟩ : ∃ Q, rgHeld R s h = Q := ⟨_, rfl⟩
  have hq := hQ
  unfold rgHeld at hq
  rw [hE] at HC hq
  rw [hQ]
  have HQ := Lib.hid hq
  have HE := Lib.hid hE
  clear hr hQ hE hq
  by_cases h0 : E = 0
  · subst h0
    have hok := chkE_iff.1 HE.out
    have HHELD := Lib.hid (fun cb v W hv hS' => held_any P cb v R.hs s h W hv hS' hok.hok.srt hH)
    have hq2 := HQ.out
    rw [if_pos rfl] at hq2
    rw [hq2] at HHELD
    clear hok hq2
    go_enter Tryz.func112, Tryz.ntmps112
    go_wp2_with fail
    refine (HC.out _ (bal brefl _)).mono ?_
    rintro e w1 ⟨rfl, hb1⟩
    have r1 := boxed_cell hb1 1 rfl
    have HB1 := Lib.hid hb1
    have HR1 := Lib.hid (HR.out.below (bup (bal brefl _) hb1))
    clear hb1
    go_wp2_with fail
    refine (HHELD.out _ (.slice a1 n1 c1) _ ((World.cell?_alloc_at _ _ _ _ rfl).trans rfl) (HR1.out.H.alloc _)).mono ?_
    rintro e w2 ⟨rfl, hb2⟩
    go_wp2
    go_ret
    exact ⟨rfl, bup (bal (bup (bal brefl _) HB1.out) _) hb2⟩
  · have hE1 : (E != 0) = true := by simpa using h0
    have hE2 : (E == 0) = false := by simpa using h0
    have hf : Q = 0 := by rw [← HQ.out, if_neg h0]
    subst hf
    go_enter Tryz.func112, Tryz.ntmps112
    go_wp2_with fail
    refine (HC.out _ (bal brefl _)).mono ?_
    rintro e w1 ⟨rfl, hb1⟩
    go_wp2
    go_ret
    exact ⟨rfl, bup (bal brefl _) hb1⟩
set_option maxHeartbeats 1000000 in
theorem rout_any (P : Nat → Prop) (vs vh vm : Value) (R : Reg) (s : Int) (w : World) (hr : RgIn P w vs vh vm R) (hS : R.secs.length ≤ 1000000) (hH : R.hs.length ≤ 1000000) (hM : R.ms.length ≤ 1000000) :
    Calls Tryz.prog 111 #[.agg #[vs, vh, vm], .int .i64 s] w fun e w' => e = .returned (.int .i64 (rgOut R s)) ∧ Below w.heap.size w w' := by
  obtain ⟨a0, n0, c0, rfl, -, -, -⟩ := hr.S.shape
  obtain ⟨a1, n1, c1, rfl, -, -, -⟩ := hr.H.shape
  obtain ⟨a2, n2, c2, rfl, -, -, -⟩ := hr.M.shape
  have HC := Lib.hid (fun W hW => check_any P _ _ _ R W (hr.below (w' := W) hW) hS hH hM)
  have HR := Lib.hid hr
  obtain ⟨E, hE⟩ : ∃ E, chkE R = E := ⟨_, rfl⟩
  obtain ⟨Q, hQ⟩ : ∃ Q, rgOut R s = Q := ⟨_, rfl⟩
  have hq := hQ
  unfold rgOut at hq
  rw [hE] at HC hq
  rw [hQ]
  have HQ := Lib.hid hq
  have HE := Lib.hid hE
  clear hr hQ hE hq
  by_cases h0 : E = 0
  · subst h0
    have hok := chkE_iff.1 HE.out
    have HHELD := Lib.hid (fun cb v W hv hS' => outst_any P cb v R.hs s W hv hS' hok.hok hH)
    have hq2 := HQ.out
    rw [if_pos rfl] at hq2
    rw [hq2] at HHELD
    clear hok hq2
    go_enter Tryz.func111, Tryz.ntmps111
    go_wp2_with fail
    refine (HC.out _ (bal brefl _)).mono ?_
    rintro e w1 ⟨rfl, hb1⟩
    have r1 := boxed_cell hb1 1 rfl
    have HB1 := Lib.hid hb1
    have HR1 := Lib.hid (HR.out.below (bup (bal brefl _) hb1))
    clear hb1
    go_wp2_with fail
    refine (HHELD.out _ (.slice a1 n1 c1) _ ((World.cell?_alloc_at _ _ _ _ rfl).trans rfl) (HR1.out.H.alloc _)).mono ?_
    rintro e w2 ⟨rfl, hb2⟩
    go_wp2
    go_ret
    exact ⟨rfl, bup (bal (bup (bal brefl _) HB1.out) _) hb2⟩
  · have hE1 : (E != 0) = true := by simpa using h0
    have hE2 : (E == 0) = false := by simpa using h0
    have hf : Q = 0 := by rw [← HQ.out, if_neg h0]
    subst hf
    go_enter Tryz.func111, Tryz.ntmps111
    go_wp2_with fail
    refine (HC.out _ (bal brefl _)).mono ?_
    rintro e w1 ⟨rfl, hb1⟩
    go_wp2
    go_ret
    exact ⟨rfl, bup (bal brefl _) hb1⟩
/-- a list that a function hands back -/
def GaveH (P : Nat → Prop) (L : List Hold) (w : World) (e : Ending) (w' : World) : Prop := ∃ v, e = .returned v ∧ Sl 3 encHold P w' v L ∧ Below w.heap.size w w'
set_option maxHeartbeats 1000000 in
theorem rat_any (P : Nat → Prop) (vs vh vm : Value) (R : Reg) (day : Int) (w : World) (hr : RgIn P w vs vh vm R) (hS : R.secs.length ≤ 1000000) (hH : R.hs.length ≤ 1000000) (hM : R.ms.length ≤ 1000000) (hP : ∀ b, w.heap.size ≤ b → P b) :
    Calls Tryz.prog 94 #[.agg #[vs, vh, vm], .int .i64 day] w (GaveH P (rgAt R day) w) := by
  obtain ⟨a0, n0, c0, rfl, -, -, -⟩ := hr.S.shape
  obtain ⟨a1, n1, c1, rfl, -, -, -⟩ := hr.H.shape
  obtain ⟨a2, n2, c2, rfl, -, -, -⟩ := hr.M.shape
  have HC := Lib.hid (fun W hW => check_any P _ _ _ R W (hr.below (w' := W) hW) hS hH hM)
  have HR := Lib.hid hr
  obtain ⟨E, hE⟩ : ∃ E, chkE R = E := ⟨_, rfl⟩
  obtain ⟨Q, hQ⟩ : ∃ Q, rgAt R day = Q := ⟨_, rfl⟩
  have hq := hQ
  unfold rgAt at hq
  rw [hE] at HC hq
  rw [hQ]
  have HQ := Lib.hid hq
  have HE := Lib.hid hE
  clear hr hQ hE hq
  by_cases h0 : E = 0
  · subst h0
    have hok := chkE_iff.1 HE.out
    have hq2 := HQ.out
    rw [if_pos rfl] at hq2
    obtain ⟨K, hK⟩ : ∃ K, repl R.secs (wantDay day) R.ms 0 0 [] = K := ⟨_, rfl⟩
    rw [hK] at hq2
    have HD := Lib.hid (fun W h1 h2 db hdb => replay_day (.slice a0 n0 c0) (.slice a1 n1 c1) (.slice a2 n2 c2) R.secs R.ms day db W h1 h2 hS (by have := hok.lm; omega) ⟨_, _, _, rfl⟩ hok.sec hdb)
    rw [hK] at HD
    have HQ2 := Lib.hid hq2
    clear hok hq2 hK
    go_enter Tryz.func94, Tryz.ntmps94
    go_wp2_with fail
    refine (HC.out _ (bal (bal brefl _) _)).mono ?_
    rintro e w1 ⟨rfl, hb1⟩
    have r0 : w1.cell? ⟨w.heap.size, 0, none⟩ = some (.slice a0 n0 c0) := keepB hb1 (keepA ((World.cell?_alloc_at _ _ _ _ rfl).trans rfl))
    have r1 : w1.cell? ⟨w.heap.size, 1, none⟩ = some (.slice a1 n1 c1) := keepB hb1 (keepA ((World.cell?_alloc_at _ _ _ _ rfl).trans rfl))
    have r2 : w1.cell? ⟨w.heap.size, 2, none⟩ = some (.slice a2 n2 c2) := keepB hb1 (keepA ((World.cell?_alloc_at _ _ _ _ rfl).trans rfl))
    have d0 : w1.cell? ⟨w.heap.size + 1, 0, none⟩ = some (.int .i64 day) := keepB hb1 ((World.cell?_alloc_at _ _ _ _ (by simp)).trans rfl)
    have HB1 := Lib.hid (bup (bal (bal brefl _) _) hb1)
    have HR1 := Lib.hid (HR.out.below (bup (bal (bal brefl _) _) hb1))
    clear hb1
    go_wp2_with fail
    refine (HD.out _ HR1.out.any.S HR1.out.any.M _ d0).mono ?_
    rintro e w2 ⟨v', rfl, hC, hb2⟩
    have c1' := hC.h1
    have HO := Lib.hid hC.O
    have zz := HB1.out.size
    obtain ⟨av, cv, rfl⟩ := own_slice hC.O
    clear hC
    go_wp2
    go_ret
    refine ⟨_, rfl, ?_, bup HB1.out hb2⟩
    rw [← HQ2.out]
    exact Sl.own encHold_len HO.out rfl (fun b hb => hP b (by omega))
  · have hE1 : (E != 0) = true := by simpa using h0
    have hE2 : (E == 0) = false := by simpa using h0
    have hf : Q = [] := by rw [← HQ.out, if_neg h0]
    subst hf
    go_enter Tryz.func94, Tryz.ntmps94
    go_wp2_with fail
    refine (HC.out _ (bal (bal brefl _) _)).mono ?_
    rintro e w1 ⟨rfl, hb1⟩
    go_wp2
    go_ret
    exact ⟨_, rfl, Sl.nil, bup (bal (bal brefl _) _) hb1⟩
theorem sumH_take {L : List Hold} (h : ∀ x ∈ L, 0 < x.a ∧ x.a ≤ 1000000000000) : ∀ k, 0 ≤ sumH (L.take k) ∧ sumH (L.take k) ≤ 1000000000000 * k := by
  intro k
  induction k with
  | zero => simp [sumH]
  | succ k ih =>
    cases hk : L[k]? with
    | none => rw [List.take_of_length_le (by have := List.getElem?_eq_none_iff.1 hk; omega)]; rw [List.take_of_length_le (by have := List.getElem?_eq_none_iff.1 hk; omega)] at ih; omega
    | some x =>
      rw [take_snocZ hk, sumH_append]
      have := h x (List.mem_of_getElem? hk)
      simp only [sumH]
      omega
end Go.Proofs.YthhoaefadfeknaaGreat
