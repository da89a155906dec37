/- the reference's register: move whole, until. The contract of the reference's Security. the reference's register: Check. the reference's register: change. -/
import Derived.Test.YthhoaefadfeknaaGreatZRefE1
import Derived.Test.YthhoaefadfeknaaGreatZRefE2
import Derived.Test.YthhoaefadfeknaaGreatZRefE3
import Derived.Test.YthhoaefadfeknaaGreatZR33Sec1
import Derived.Test.YthhoaefadfeknaaGreatZR33Sec4
import Derived.Test.YthhoaefadfeknaaGreatZR33Sec5
namespace Go.Proofs.YthhoaefadfeknaaGreat
open Go.RowKit
set_option linter.unusedVariables false
set_option linter.unusedSimpArgs false
/-- kinds and holders as until asks for them -/
def kindOk (m : Mv) : Prop := (1 ≤ m.kind ∧ m.kind ≤ 3) ∧ (m.kind = 1 → m.f = 0) ∧ (m.kind = 3 → m.t = 0)
theorem fmove_any (P : Nat → Prop) (vs vh vm v : Value) (R : Reg) (L : List Hold) (day num md k s f t a : Int) (w : World) (hr : RgIn P w vs vh vm R) (hS : Sl 3 encHold P w v L) (hlen : R.secs.length ≤ 1000000) (hL : L.length ≤ 900000) (hok : HsOk L) (hsec : ∀ s ∈ R.secs, secOk s = true) (hk : kindOk ⟨num, md, k, s, f, t, a⟩) :
    Calls Tryz.prog 197 #[.agg #[vs, vh, vm], v, .int .i64 day, .agg #[.int .i64 num, .int .i64 md, .int .i64 k, .int .i64 s, .int .i64 f, .int .i64 t, .int .i64 a]] w (MovedL (mvE R.secs L day ⟨num, md, k, s, f, t, a⟩) (mvH L ⟨num, md, k, s, f, t, a⟩) w) := by
  cases hf : findS R.secs s with
  | none => exact fmove_none P vs vh vm v R L day num md k s f t a w hr hS hlen hL hok hsec hf
  | some S =>
    obtain ⟨⟨k1, k2⟩, k3, k4⟩ := hk
    simp only at k1 k2 k3 k4
    obtain ⟨id, un, is, ma, ra, ev, ix⟩ := S
    have hk : k = 1 ∨ k = 2 ∨ k = 3 := by omega
    rcases hk with rfl | rfl | rfl
    · exact fmove_k1 P vs vh vm v R L day num md s f t a w hr hS hlen hL hok hsec id un is ma ra ev ix hf (k3 rfl)
    · exact fmove_k2 P vs vh vm v R L day num md s f t a w hr hS hlen hL hok hsec id un is ma ra ev ix hf
    · exact fmove_k3 P vs vh vm v R L day num md s f t a w hr hS hlen hL hok hsec id un is ma ra ev ix hf (k4 rfl)
theorem mvOk_kind {secs : List Sec} {hs : List Hold} {day : Int} {m : Mv} (h : MvOk secs hs day m) (hk : 1 ≤ m.kind ∧ m.kind ≤ 3) : kindOk m := by
  refine ⟨hk, fun h1 => ?_, fun h3 => ?_⟩
  · have := h.st
    unfold strangeB at this
    rw [if_pos h1] at this
    simp only [Bool.or_eq_false_iff] at this
    simpa using this.1
  · have := h.st
    unfold strangeB at this
    rw [if_neg (by omega), if_neg (by omega)] at this
    simp only [Bool.or_eq_false_iff] at this
    simpa using this.2
/-- what until leaves -/
def Until (X : Bool × Int × Int × List Hold) (w : World) (e : Ending) (w' : World) : Prop :=
  ∃ v, e = .returned (.tuple #[v, .bool X.1]) ∧ (X.1 = true → Sl 3 encHold (fun b => w.heap.size ≤ b) w' v X.2.2.2) ∧ (X.1 = false → v = .slice none 0 0) ∧ Below w.heap.size w w'
theorem until_no {X : Bool × Int × Int × List Hold} {k d : Int} {hs : List Hold} {w w' : World} (h : X = (false, k, d, hs)) (hb : Below w.heap.size w w') : Until X w (.returned (.tuple #[.slice none 0 0, .bool false])) w' := by
  subst h; exact ⟨_, rfl, (fun h => by cases h), (fun _ => rfl), hb⟩
theorem until_yes {X : Bool × Int × Int × List Hold} {k d : Int} {hs : List Hold} {w w' : World} {v : Value} (h : X = (true, k, d, hs)) (hs : Sl 3 encHold (fun b => w.heap.size ≤ b) w' v hs) (hb : Below w.heap.size w w') : Until X w (.returned (.tuple #[v, .bool true])) w' := by
  subst h; exact ⟨_, rfl, (fun _ => hs), (fun h => by cases h), hb⟩
theorem holdNil (P : Nat → Prop) (w : World) : Sl 3 encHold P w (.slice none 0 0) [] := ⟨none, 0, 0, rfl, rfl, Nat.le_refl _, Nat.zero_le _, .inl rfl⟩
set_option maxHeartbeats 8000000 in
set_option maxRecDepth 100000 in
theorem funtil_any (P : Nat → Prop) (vs vh vm : Value) (R : Reg) (dd : Int) (w : World) (hr : RgIn P w vs vh vm R) (hlen : R.secs.length ≤ 1000000) (hml : R.ms.length ≤ 1000) (hsec : ∀ s ∈ R.secs, secOk s = true) :
    Calls Tryz.prog 166 #[.agg #[vs, vh, vm], .int .i64 dd] w (Until (repl R.secs (wantDay dd) R.ms 0 0 []) w) := by
  obtain ⟨a0, n0, c0, rfl, -, -, -⟩ := hr.S.shape
  obtain ⟨a1, n1, c1, rfl, -, -, -⟩ := hr.H.shape
  obtain ⟨ao, n, c, rfl, hn, hnc, hcm⟩ := hr.M.shape
  have hn1 : n ≤ 1000 := by omega
  obtain ⟨X, hX⟩ : ∃ X, repl R.secs (wantDay dd) R.ms 0 0 [] = X := ⟨_, rfl⟩
  have HRG := Lib.hid hr.any
  have HN := Lib.hid hn
  have HX := Lib.hid hX
  have HSEC := Lib.hid hsec
  rw [hX]
  clear hr hn hX hsec hml
  go_enter Tryz.func166, Tryz.ntmps166
  go_wp2
  obtain ⟨W, hW⟩ : ∃ W, W = (w.alloc (.cells #[.slice a0 n0 c0, .slice a1 n1 c1, .slice ao n c] 31)) := ⟨_, rfl⟩
  have hbW : Below w.heap.size w W := by rw [hW]; exact bal brefl _
  have zW : W.heap.size = w.heap.size + 1 := by rw [hW]; simp
  have hc0 : W.cell? ⟨w.heap.size, 0, none⟩ = some (.slice a0 n0 c0) := by rw [hW, World.cell?_alloc_at _ _ _ _ (by simp)]; rfl
  have hc1 : W.cell? ⟨w.heap.size, 1, none⟩ = some (.slice a1 n1 c1) := by rw [hW, World.cell?_alloc_at _ _ _ _ (by simp)]; rfl
  have hc2 : W.cell? ⟨w.heap.size, 2, none⟩ = some (.slice ao n c) := by rw [hW, World.cell?_alloc_at _ _ _ _ (by simp)]; rfl
  have HC := Lib.hid (And.intro hc0 (And.intro hc1 hc2))
  have HBW := Lib.hid hbW
  clear hbW hc0 hc1 hc2
  go_loopw [6, 7, 15] (fun lv dv iv wr => ∃ (k : Nat) (day : Int) (hs : List Hold), k ≤ n ∧ iv = .int .i64 k ∧ dv = .int .i64 day ∧ Sl 3 encHold (fun b => w.heap.size ≤ b) wr lv hs ∧ HsOk hs ∧ hs.length ≤ 2 * k ∧ X = repl R.secs (wantDay dd) (R.ms.drop k) k day hs ∧ Below W.heap.size W wr) (fun _ _ iv _ => n - (intOf iv).toNat)
  case atStart => exact ⟨0, 0, [], by omega, rfl, rfl, holdNil _ _, HsOk.nil, by simp, by rw [List.drop_zero]; exact HX.out.symm, by rw [hW]; exact Below.refl _ _⟩
  case round =>
    obtain ⟨k, day, hs, hk, rfl, rfl, hS, hok, hhl, hRk, hbr⟩ := hrel
    have zr := hbr.size
    rw [zW] at zr
    have zx : w.heap.size < wr.heap.size := by omega
    have hBr : Below w.heap.size w wr := HBW.out.trans (hbr.mono (by omega))
    obtain ⟨lb, ln, lc, rfl, -, -, -⟩ := hS.shape
    have hc0 := keepB hbr HC.out.1
    have hc1 := keepB hbr HC.out.2.1
    have hc2 := keepB hbr HC.out.2.2
    have HBR := Lib.hid hbr
    have HBr := Lib.hid hBr
    have HS := Lib.hid hS
    have HOK := Lib.hid hok
    clear hS hok hbr hBr
    by_cases hlt : k < n
    · obtain ⟨b, off, mn, md, mk, mS, mf, mt, ma, rfl, -, hb', hL, k0, k1, k2, k3, k4, k5, k6⟩ := (HRG.out.below HBr.out).M.mv hlt
      rw [drop_cons hL] at hRk
      simp only [repl, wantDay] at hRk
      have HRK := Lib.hid hRk
      clear hL hRk
      by_cases hd : dd < md
      · have hfin := Lib.hid (show X = (true, (k : Int), day, hs) by rw [HRK.out, decide_eq_false (by omega)]; rfl)
        go_wp2
        go_ret2
        exact until_yes hfin.out (HS.out.alloc _) (bal HBr.out _)
      have gd : decide (dd < md) = false := by simpa using hd
      have hR2 : X = if stepB R.secs k day hs ⟨mn, md, mk, mS, mf, mt, ma⟩ then repl R.secs (wantDay dd) (R.ms.drop (k + 1)) (k + 1) md (mvH hs ⟨mn, md, mk, mS, mf, mt, ma⟩) else (false, (k : Int), day, hs) := by rw [HRK.out, if_pos (by rw [decide_eq_true (by omega)])]
      have HR2 := Lib.hid hR2
      have hwk : IntKind.i64.wrap ((k : Int) + 1) = (k : Int) + 1 := IntWalk.i64_in _ (by omega)
      clear hR2 HRK
      by_cases hnum : mn = (k : Int) + 1
      rotate_left
      · have hfin := Lib.hid (show X = (false, (k : Int), day, hs) by rw [HR2.out, if_neg (fun q => hnum (stepB_iff.1 q).1)])
        have n1 : (mn != (k : Int) + 1) = true := by simpa using hnum
        have n2 : (mn == (k : Int) + 1) = false := by simpa using hnum
        go_wp2
        go_ret2
        exact until_no hfin.out (bal HBr.out _)
      subst hnum
      by_cases g1 : mk < 1
      · have hfin := Lib.hid (show X = (false, (k : Int), day, hs) by rw [HR2.out, if_neg (fun q => by have := (stepB_iff.1 q).2.1; simp only at this; omega)])
        go_wp2
        go_ret2
        exact until_no hfin.out (bal HBr.out _)
      have d1 : decide (mk < 1) = false := by simpa using g1
      by_cases g2 : 3 < mk
      · have hfin := Lib.hid (show X = (false, (k : Int), day, hs) by rw [HR2.out, if_neg (fun q => by have := (stepB_iff.1 q).2.1; simp only at this; omega)])
        go_wp2
        go_ret2
        exact until_no hfin.out (bal HBr.out _)
      have d2 : decide (3 < mk) = false := by simpa using g2
      by_cases hko : kindOk ⟨(k : Int) + 1, md, mk, mS, mf, mt, ma⟩
      rotate_left
      · have hfin := Lib.hid (show X = (false, (k : Int), day, hs) by rw [HR2.out, if_neg (fun q => hko (mvOk_kind (stepB_iff.1 q).2.2 (stepB_iff.1 q).2.1))])
        have hkk : (mk = 1 ∧ mf ≠ 0) ∨ (mk = 3 ∧ mt ≠ 0) := by
          simp only [kindOk] at hko
          omega
        clear hko
        rcases hkk with ⟨rfl, hf0⟩ | ⟨rfl, ht0⟩
        · go_wp2
          go_ret2
          exact until_no hfin.out (bal HBr.out _)
        · go_wp2
          go_ret2
          exact until_no hfin.out (bal HBr.out _)
      obtain ⟨E, hE⟩ : ∃ E, mvE R.secs hs day ⟨(k : Int) + 1, md, mk, mS, mf, mt, ma⟩ = E := ⟨_, rfl⟩
      obtain ⟨H2, hH2⟩ : ∃ H2, mvH hs ⟨(k : Int) + 1, md, mk, mS, mf, mt, ma⟩ = H2 := ⟨_, rfl⟩
      have hD : ∀ W', Below wr.heap.size wr W' → _ := fun W' hW' => fmove_any (fun _ => True) _ _ _ _ R hs day ((k : Int) + 1) md mk mS mf mt ma W' ((HRG.out.below HBr.out).below hW') ((HS.out.mono (fun _ _ _ => trivial)).below hW') hlen (by omega) HOK.out HSEC.out hko
      rw [hE, hH2] at hD
      have HD := Lib.hid hD
      have HE := Lib.hid hE
      have HH2 := Lib.hid hH2
      have hkb : (mk = 1 → mf = 0) ∧ (mk = 3 → mt = 0) := hko.2
      have HKO := Lib.hid hko
      clear hE hH2 hD hko
      have hk3 : (mk = 1 ∧ mf = 0) ∨ mk = 2 ∨ (mk = 3 ∧ mt = 0) := by have := HKO.out; simp only [kindOk] at this; omega
      clear hkb g1 g2 d1 d2
      rcases hk3 with ⟨rfl, rfl⟩ | rfl | ⟨rfl, rfl⟩
      all_goals
        go_wp2_with fail
        refine (HD.out _ (bal brefl _)).mono ?_
        rintro e w1 ⟨v', rfl, hnil, hown, hb1⟩
        have q1 := boxed_cell hb1 1 rfl
        have z1 := hb1.size
        rw [World.size_alloc] at z1
        by_cases hE0 : E = 0
        · subst hE0
          have ho := hown rfl
          obtain ⟨lb', lc', rfl⟩ := own_slice0 ho
          have HSL := Lib.hid (Sl.own (L := H2) encHold_len ho rfl (P := fun b => w.heap.size ≤ b) (fun b hb => by rw [World.size_alloc] at hb; omega))
          have hRn : X = repl R.secs (wantDay dd) (R.ms.drop (k + 1)) (k + 1) md H2 := by rw [HR2.out, if_pos (by unfold stepB; rw [HE.out]; simp [inB]), HH2.out]
          have HRN := Lib.hid hRn
          have hok2 : HsOk H2 := by rw [← HH2.out]; exact mvH_ok HOK.out (mvOk_iff.1 HE.out)
          have hl2 : H2.length ≤ 2 * (k + 1) := by
            have hl := HH2.out
            rw [← hl]
            refine Nat.le_trans (mvH_len hs _) ?_
            omega
          have HOK2 := Lib.hid hok2
          have HB1 := Lib.hid (bup (bal HBR.out _) hb1)
          clear hRn hok2 ho hown hnil hb1
          go_wp2
          go_quiet (fail)
          go_wp2
          go_roundw
          case rel => exact ⟨k + 1, md, H2, by omega, by go_num, rfl, HSL.out.drewN _, HOK2.out, hl2, by rw [show ((k + 1 : Nat) : Int) = (k : Int) + 1 by omega]; exact HRN.out, below_drewZ HB1.out _⟩
          case measure => simp [intOf]; omega
        · have hfin := Lib.hid (show X = (false, (k : Int), day, hs) by rw [HR2.out, if_neg (fun q => by unfold stepB at q; rw [HE.out] at q; simp [hE0] at q)])
          obtain rfl := hnil hE0
          have e1 : (E != 0) = true := by simpa using hE0
          have e2 : (E == 0) = false := by simpa using hE0
          have HB1 := Lib.hid (bup (bal HBr.out _) hb1)
          clear hown hnil hb1
          go_wp2
          go_ret2
          exact until_no hfin.out HB1.out
    · have hkn : k = n := by omega
      subst hkn
      have hfin : X = (true, (k : Int), day, hs) := by rw [hRk, drop_all (by have := HN.out; omega)]; rfl
      have HF := Lib.hid hfin
      clear hfin hRk
      go_wp2
      go_ret2
      exact until_yes HF.out HS.out HBr.out
end Go.Proofs.YthhoaefadfeknaaGreat
namespace Go.Proofs.YthhoaefadfeknaaGreat
open Go.RowKit
set_option linter.unusedVariables false

theorem r33sec_any (id un is ma ra ev : Int) (ix : Bool) (w : World) : Calls Tryz.prog 91 #[.agg #[.int .i64 id, .int .i64 un, .int .i64 is, .int .i64 ma, .int .i64 ra, .int .i64 ev, .bool ix]] w fun e w' => e = .returned (.bool (secB id un is ma ra ev)) ∧ Below w.heap.size w w' := by
  by_cases q1 : id < 1
  · exact r33sec_no1 id un is ma ra ev ix w  q1
  have g1 : 1 ≤ id := by omega
  by_cases q2 : 1000 < id
  · exact r33sec_no2 id un is ma ra ev ix w g1 q2
  have g2 : id ≤ 1000 := by omega
  by_cases q3 : un < 1
  · exact r33sec_no3 id un is ma ra ev ix w g1 g2 q3
  have g3 : 1 ≤ un := by omega
  by_cases q4 : 1000000000 < un
  · exact r33sec_no4 id un is ma ra ev ix w g1 g2 g3 q4
  have g4 : un ≤ 1000000000 := by omega
  by_cases q5 : is < 0
  · exact r33sec_no5 id un is ma ra ev ix w g1 g2 g3 g4 q5
  have g5 : 0 ≤ is := by omega
  by_cases q6 : 36000 < is
  · exact r33sec_no6 id un is ma ra ev ix w g1 g2 g3 g4 g5 q6
  have g6 : is ≤ 36000 := by omega
  by_cases q7 : 35990 < ma
  · exact r33sec_no7 id un is ma ra ev ix w g1 g2 g3 g4 g5 g6 q7
  have g7 : ma ≤ 35990 := by omega
  by_cases q8 : ma < is + 30
  · exact r33sec_no8 id un is ma ra ev ix w g1 g2 g3 g4 g5 g6 g7 q8
  have g8 : is + 30 ≤ ma := by omega
  by_cases q9 : is + 18000 < ma
  · exact r33sec_no9 id un is ma ra ev ix w g1 g2 g3 g4 g5 g6 g7 g8 q9
  have g9 : ma ≤ is + 18000 := by omega
  cases g10 : ((ma - is) % 30 == 0)
  · exact r33sec_no10 id un is ma ra ev ix w g1 g2 g3 g4 g5 g6 g7 g8 g9 g10 (by rw [bne, g10]; rfl)
  have g10' : ((ma - is) % 30 != 0) = false := by rw [bne, g10]; rfl
  by_cases q11 : ra < 0
  · exact r33sec_no11 id un is ma ra ev ix w g1 g2 g3 g4 g5 g6 g7 g8 g9 g10 g10' q11
  have g11 : 0 ≤ ra := by omega
  by_cases q12 : 20000 < ra
  · exact r33sec_no12 id un is ma ra ev ix w g1 g2 g3 g4 g5 g6 g7 g8 g9 g10 g10' g11 q12
  have g12 : ra ≤ 20000 := by omega
  exact r33sec_last id un is ma ra ev ix w g1 g2 g3 g4 g5 g6 g7 g8 g9 g10 g10' g11 g12 _ rfl
end Go.Proofs.YthhoaefadfeknaaGreat
namespace Go.Proofs.YthhoaefadfeknaaGreat
open Go.RowKit
set_option linter.unusedVariables false
set_option linter.unusedSimpArgs false
theorem repl_wd {secs : List Sec} : ∀ {ms : List Mv} {n d : Int} {hs : List Hold}, (∀ m ∈ ms, m.day ≤ 36000) → repl secs (wantDay 36000) ms n d hs = repl secs wantAll ms n d hs
  | [], _, _, _, _ => rfl
  | m :: ms, n, d, hs, h => by
    have hw : wantDay 36000 m = true := decide_eq_true (h m (List.mem_cons_self ..))
    simp only [repl]
    rw [if_pos hw, if_pos (show wantAll m = true from rfl), repl_wd (fun x hx => h x (List.mem_cons_of_mem _ hx))]
theorem repl_days {secs : List Sec} (hsec : ∀ s ∈ secs, secOk s = true) : ∀ {ms : List Mv} {n d : Int} {hs : List Hold}, (repl secs wantAll ms n d hs).1 = true → ∀ m ∈ ms, 0 ≤ m.day ∧ m.day ≤ 36000
  | [], _, _, _, _, m, hm => by simp at hm
  | x :: ms, n, d, hs, h, m, hm => by
    simp only [repl, wantAll, if_true] at h
    by_cases hs1 : stepB secs n d hs x = true
    · rw [if_pos hs1] at h
      rcases List.mem_cons.1 hm with rfl | hm
      · obtain ⟨s, hf, -, h1, h2⟩ := (stepB_iff.1 hs1).2.2.fi
        have hk := secB_iff.1 (hsec s (findS_mem hf).1)
        have i0 := hk.is0
        have i1 := hk.ma2
        split at h2 <;> omega
      · exact repl_days hsec h m hm
    · rw [if_neg hs1] at h
      cases h
theorem movesB_day {R : Reg} {m : Mv} (hsec : ∀ s ∈ R.secs, secOk s = true) (hm : m ∈ R.ms) (hd : m.day < 0 ∨ 36000 < m.day) : ¬ movesB R = true := by
  intro h
  unfold movesB at h
  rw [Bool.and_eq_true] at h
  have := repl_days hsec h.1 m hm
  omega
set_option maxHeartbeats 4000000 in
set_option maxRecDepth 100000 in
theorem fcheck_any (P : Nat → Prop) (vs vh vm : Value) (R : Reg) (w : World) (h : RgIn P w vs vh vm R) (hS : R.secs.length ≤ 1000000) (hH : R.hs.length ≤ 1000000) (hM : R.ms.length ≤ 1000000) :
    Calls Tryz.prog 109 #[.agg #[vs, vh, vm]] w fun e w' => e = .returned (.int .i64 (chkE R)) ∧ Below w.heap.size w w' := by
  obtain ⟨a0, n0, c0, rfl, hn0, hnc0, hcm0⟩ := h.S.shape
  obtain ⟨a1, n1, c1, rfl, hn1, hnc1, hcm1⟩ := h.H.shape
  obtain ⟨a2, n2, c2, rfl, hn2, hnc2, hcm2⟩ := h.M.shape
  obtain ⟨E, hE⟩ : ∃ E, chkE R = E := ⟨_, rfl⟩
  rw [hE]
  have HE := Lib.hid (show E = if 20 < n0 ∨ 400 < n2 then 3 else if secsB 0 R.secs then (if movesB R then 0 else 78) else 78 by rw [← hE, ← hn0, ← hn2]; rfl)
  have HH := Lib.hid h
  have HN0 := Lib.hid hn0
  have HN2 := Lib.hid hn2
  have HN1 := Lib.hid hn1
  have b0 : n0 ≤ 1000000 := by omega
  have b1 : n1 ≤ 1000000 := by omega
  have b2 : n2 ≤ 1000000 := by omega
  clear h hn0 hn1 hn2 hE hS hM
  by_cases h1 : 20 < n0
  · have hf : E = 3 := by rw [HE.out, if_pos (.inl h1)]
    subst hf
    go_enter Tryz.func109, Tryz.ntmps109
    go_wp2
    go_ret
    exact ⟨rfl, bal brefl _⟩
  by_cases h2 : 400 < n2
  · have hf : E = 3 := by rw [HE.out, if_pos (.inr h2)]
    subst hf
    go_enter Tryz.func109, Tryz.ntmps109
    go_wp2
    go_ret
    exact ⟨rfl, bal brefl _⟩
  have HE2 := Lib.hid (show E = if secsB 0 R.secs then (if movesB R then 0 else 78) else 78 by rw [HE.out, if_neg (by omega)])
  clear HE
  go_enter Tryz.func109, Tryz.ntmps109
  go_wp2
  obtain ⟨W, hW⟩ : ∃ W, W = w.alloc (.cells #[.slice a0 n0 c0, .slice a1 n1 c1, .slice a2 n2 c2] 31) := ⟨_, rfl⟩
  have hbW : Below w.heap.size w W := by rw [hW]; exact bal brefl _
  have zW : W.heap.size = w.heap.size + 1 := by rw [hW]; simp
  have r0 : W.cell? ⟨w.heap.size, 0, none⟩ = some (.slice a0 n0 c0) := by rw [hW, World.cell?_alloc_at _ _ _ _ rfl]; rfl
  have r1 : W.cell? ⟨w.heap.size, 1, none⟩ = some (.slice a1 n1 c1) := by rw [hW, World.cell?_alloc_at _ _ _ _ rfl]; rfl
  have r2 : W.cell? ⟨w.heap.size, 2, none⟩ = some (.slice a2 n2 c2) := by rw [hW, World.cell?_alloc_at _ _ _ _ rfl]; rfl
  have R0 := Lib.hid r0
  have R1 := Lib.hid r1
  have R2 := Lib.hid r2
  have HBW := Lib.hid hbW
  have HWW := Lib.hid hW
  clear r0 r1 r2 hbW hW
  go_loopw [22] (fun iv wr => ∃ (k : Nat) (p : Int), k ≤ n0 ∧ iv = .int .i64 k ∧ ((k = 0 ∧ p = 0) ∨ ∃ s, 0 < k ∧ R.secs[k - 1]? = some s ∧ p = s.id) ∧ secsB 0 R.secs = secsB p (R.secs.drop k) ∧ (∀ s ∈ R.secs.take k, secOk s = true) ∧ Below W.heap.size W wr) (fun iv _ => n0 - (intOf iv).toNat)
  case atStart => exact ⟨0, 0, by omega, rfl, .inl ⟨rfl, rfl⟩, by rw [List.drop_zero], by simp, by rw [HWW.out]; exact Below.refl _ _⟩
  case round =>
    obtain ⟨k, p, hk, rfl, hp, hrk, hall, hbr⟩ := hrel
    have zr := hbr.size
    rw [zW] at zr
    have hBr : Below w.heap.size w wr := HBW.out.trans (hbr.mono (by omega))
    have r0 := keepB hbr R0.out
    have r1 := keepB hbr R1.out
    have r2 := keepB hbr R2.out
    have HBR := Lib.hid hbr
    have HBr := Lib.hid hBr
    have HRG := Lib.hid (HH.out.below hBr)
    have HRK := Lib.hid hrk
    have HALL := Lib.hid hall
    have HP := Lib.hid hp
    clear hbr hBr hrk hall hp
    by_cases hlt : k < n0
    · obtain ⟨b, off, sid, sun, sis, sma, sra, sev, six, rfl, -, hb', hL, k0, k1, k2, k3, k4, k5, k6⟩ := HRG.out.S.sec hlt
      have hrk := HRK.out
      rw [drop_cons hL, secsB_cons] at hrk
      have HRK2 := Lib.hid hrk
      have HLk := Lib.hid hL
      clear hrk hL
      obtain ⟨ok, hok⟩ : ∃ b, secB sid sun sis sma sra sev = b := ⟨_, rfl⟩
      have HOK := Lib.hid hok
      clear hok
      have s0 : (wr.alloc (.cells #[.int .i64 sid, .int .i64 sun, .int .i64 sis, .int .i64 sma, .int .i64 sra, .int .i64 sev, .bool six] 26)).cell? ⟨wr.heap.size, 0, none⟩ = some (.int .i64 sid) := (World.cell?_alloc_at _ _ _ _ rfl).trans rfl
      have s1 : (wr.alloc (.cells #[.int .i64 sid, .int .i64 sun, .int .i64 sis, .int .i64 sma, .int .i64 sra, .int .i64 sev, .bool six] 26)).cell? ⟨wr.heap.size, 1, none⟩ = some (.int .i64 sun) := (World.cell?_alloc_at _ _ _ _ rfl).trans rfl
      have s2 : (wr.alloc (.cells #[.int .i64 sid, .int .i64 sun, .int .i64 sis, .int .i64 sma, .int .i64 sra, .int .i64 sev, .bool six] 26)).cell? ⟨wr.heap.size, 2, none⟩ = some (.int .i64 sis) := (World.cell?_alloc_at _ _ _ _ rfl).trans rfl
      have s3 : (wr.alloc (.cells #[.int .i64 sid, .int .i64 sun, .int .i64 sis, .int .i64 sma, .int .i64 sra, .int .i64 sev, .bool six] 26)).cell? ⟨wr.heap.size, 3, none⟩ = some (.int .i64 sma) := (World.cell?_alloc_at _ _ _ _ rfl).trans rfl
      have s4 : (wr.alloc (.cells #[.int .i64 sid, .int .i64 sun, .int .i64 sis, .int .i64 sma, .int .i64 sra, .int .i64 sev, .bool six] 26)).cell? ⟨wr.heap.size, 4, none⟩ = some (.int .i64 sra) := (World.cell?_alloc_at _ _ _ _ rfl).trans rfl
      have s5 : (wr.alloc (.cells #[.int .i64 sid, .int .i64 sun, .int .i64 sis, .int .i64 sma, .int .i64 sra, .int .i64 sev, .bool six] 26)).cell? ⟨wr.heap.size, 5, none⟩ = some (.int .i64 sev) := (World.cell?_alloc_at _ _ _ _ rfl).trans rfl
      have s6 : (wr.alloc (.cells #[.int .i64 sid, .int .i64 sun, .int .i64 sis, .int .i64 sma, .int .i64 sra, .int .i64 sev, .bool six] 26)).cell? ⟨wr.heap.size, 6, none⟩ = some (.bool six) := (World.cell?_alloc_at _ _ _ _ rfl).trans rfl
      have u0 := up_cell s0
      have u1 := up_cell s1
      have u2 := up_cell s2
      have u3 := up_cell s3
      have u4' := up_cell s4
      have u5 := up_cell s5
      have u6 := up_cell s6
      clear s0 s1 s2 s3 s4 s5 s6
      cases ok
      · have hf : E = 78 := by rw [HE2.out, HRK2.out]; simp [secOk, HOK.out]
        subst hf
        go_wp2
        (refine wp_region_up (by kernel_rfl) (by kernel_rfl) ?_); (repeat (go_big_quiet_step ((go_at_call 91; refine (r33sec_any _ _ _ _ _ _ _ _).mono ?_; rw [HOK.out]; exact fun _ _ hh => ⟨hh.1, ⟨_, bup (Subtype.property _) hh.2⟩, rfl⟩)))); (refine wpQuiet_nil ?_); (rintro w1 ⟨⟨_, hb1⟩, rfl⟩)

        go_wp2
        go_ret
        exact ⟨rfl, bup HBr.out ((bal brefl _).trans (hb1.mono (by simp)))⟩
      · have hid := secOk_id (s := ⟨sid, sun, sis, sma, sra, sev, six⟩) HOK.out
        simp only at hid
        rcases HP.out with ⟨hk0, hp0⟩ | ⟨s, hk0, hsp, hp0⟩
        · subst hp0
          have HK0 := Lib.hid hk0
          have hk1 : (k : Int) ≤ 0 := by omega
          clear hk0
          have hst := Lib.hid (show secsB 0 R.secs = secsB sid (R.secs.drop (k + 1)) by rw [HRK2.out]; simp only [secOk, HOK.out, Bool.true_and]; rw [decide_eq_true (by omega), Bool.true_and])
          have hal := Lib.hid (show ∀ s ∈ R.secs.take (k + 1), secOk s = true from fun s hs => by
            rw [take_snocZ HLk.out, HK0.out] at hs
            simp only [List.take_zero, List.nil_append, List.mem_singleton] at hs
            subst hs; exact HOK.out)
          have hgd : decide (0 < k) = false := by simp; omega
          go_wp2
          (refine wp_region_up (by kernel_rfl) (by kernel_rfl) ?_); (repeat (go_big_quiet_step ((go_at_call 91; refine (r33sec_any _ _ _ _ _ _ _ _).mono ?_; rw [HOK.out]; exact fun _ _ hh => ⟨hh.1, ⟨_, bup (Subtype.property _) hh.2⟩, rfl⟩)))); (refine wpQuiet_nil ?_); (rintro w1 ⟨⟨_, hb1⟩, rfl⟩)
          go_wp2
          go_roundw
          case rel => exact ⟨k + 1, sid, by omega, by go_num, .inr ⟨⟨sid, sun, sis, sma, sra, sev, six⟩, by omega, by have := HLk.out; simpa using this, rfl⟩, hst.out, hal.out, (HBR.out.alloc (by omega) _).trans (hb1.mono (by simp; omega))⟩
          case measure => simp [intOf]; omega
        · obtain ⟨m, rfl⟩ : ∃ m, k = m + 1 := ⟨k - 1, by omega⟩
          simp only [Nat.add_sub_cancel] at hsp hp0
          obtain ⟨b2, off2, pid, pun, pis, pma, pra, pev, pix, he2, -, hb2, hL2, j0, j1, j2, j3, j4, j5, j6⟩ := HRG.out.S.sec (k := m) (by omega)
          cases he2
          rw [hsp] at hL2
          cases hL2
          simp only at hp0
          obtain rfl : p = pid := hp0
          have v0 := up_cell (keepA j0 (o := .cells #[.int .i64 sid, .int .i64 sun, .int .i64 sis, .int .i64 sma, .int .i64 sra, .int .i64 sev, .bool six] 26))
          have v1 := up_cell (keepA r0 (o := .cells #[.int .i64 sid, .int .i64 sun, .int .i64 sis, .int .i64 sma, .int .i64 sra, .int .i64 sev, .bool six] 26))
          have hw1 : IntKind.i64.wrap (((m + 1 : Nat) : Int) - 1) = m := (IntWalk.i64_in _ (by omega)).trans (by omega)
          have hw2 : IntKind.i64.wrap ((m : Int) + 1 - 1) = m := (IntWalk.i64_in _ (by omega)).trans (by omega)
          have hmn : (m : Int) < n0 := by omega
          have hgd : decide (((m : Int) + 1) > 0) = true := decide_eq_true (by omega)
          by_cases hlt2 : p < sid
          · have hst := Lib.hid (show secsB 0 R.secs = secsB sid (R.secs.drop (m + 1 + 1)) by rw [HRK2.out]; simp only [secOk, HOK.out, Bool.true_and]; rw [decide_eq_true hlt2, Bool.true_and])
            have hal := Lib.hid (show ∀ s ∈ R.secs.take (m + 1 + 1), secOk s = true from fun s hs => by
              rw [take_snocZ HLk.out] at hs
              rcases List.mem_append.1 hs with hs | hs
              · exact HALL.out s hs
              · simp only [List.mem_singleton] at hs
                subst hs; exact HOK.out)
            have hge : decide (sid ≤ p) = false := by simp; omega
            go_wp2
            (refine wp_region_up (by kernel_rfl) (by kernel_rfl) ?_); (repeat (go_big_quiet_step ((go_at_call 91; refine (r33sec_any _ _ _ _ _ _ _ _).mono ?_; rw [HOK.out]; exact fun _ _ hh => ⟨hh.1, ⟨_, bup (Subtype.property _) hh.2⟩, rfl⟩)))); (refine wpQuiet_nil ?_); (rintro w1 ⟨⟨_, hb1⟩, rfl⟩)
            go_wp2
            go_roundw
            case rel => exact ⟨m + 1 + 1, sid, by omega, by go_num, .inr ⟨⟨sid, sun, sis, sma, sra, sev, six⟩, by omega, by have := HLk.out; simpa using this, rfl⟩, hst.out, hal.out, (HBR.out.alloc (by omega) _).trans (hb1.mono (by simp; omega))⟩
            case measure => simp [intOf]; omega
          · have hf : E = 78 := by rw [HE2.out, HRK2.out]; simp [secOk, HOK.out, hlt2]
            subst hf
            have hge : decide (sid ≤ p) = true := by simp; omega
            go_wp2
            (refine wp_region_up (by kernel_rfl) (by kernel_rfl) ?_); (repeat (go_big_quiet_step ((go_at_call 91; refine (r33sec_any _ _ _ _ _ _ _ _).mono ?_; rw [HOK.out]; exact fun _ _ hh => ⟨hh.1, ⟨_, bup (Subtype.property _) hh.2⟩, rfl⟩)))); (refine wpQuiet_nil ?_); (rintro w1 ⟨⟨_, hb1⟩, rfl⟩)
            go_wp2
            go_ret
            exact ⟨rfl, bup HBr.out ((bal brefl _).trans (hb1.mono (by simp)))⟩
    · have hkn : k = n0 := by omega
      subst hkn
      have hsb : secsB 0 R.secs = true := by rw [HRK.out, drop_all (by have := HN0.out; omega)]; rfl
      have hsec : ∀ s ∈ R.secs, secOk s = true := by
        have q := HALL.out
        rw [take_all (by have := HN0.out; omega)] at q
        exact q
      have HE3 := Lib.hid (show E = if movesB R then 0 else 78 by rw [HE2.out, if_pos hsb])
      have HSC := Lib.hid hsec
      have hl2 : n2 ≤ 400 := by omega
      clear hsb hsec
      go_wp2
      obtain ⟨W2, hW2⟩ : ∃ W2, W2 = wr := ⟨_, rfl⟩
      have HW2 := Lib.hid hW2
      go_loopw [50] (fun iv wr2 => ∃ j : Nat, j ≤ n2 ∧ iv = .int .i64 j ∧ (∀ m ∈ R.ms.take j, 0 ≤ m.day ∧ m.day ≤ 36000) ∧ Below W2.heap.size W2 wr2) (fun iv _ => n2 - (intOf iv).toNat)
      case atStart => exact ⟨0, by omega, rfl, by simp, by rw [HW2.out]; exact Below.refl _ _⟩
      case round =>
        obtain ⟨j, hj, rfl, hdays, hb2⟩ := hrel
        rw [hW2] at hb2
        have zr2 := hb2.size
        have r0' := keepB hb2 r0
        have r1' := keepB hb2 r1
        have r2' := keepB hb2 r2
        have HDY := Lib.hid hdays
        have HB2 := Lib.hid hb2
        clear hdays hb2 r0 r1 r2
        by_cases hlt2 : j < n2
        · obtain ⟨b2, off2, mn, md, mk, mS, mf, mt, ma, rfl, -, hb3, hL2, k0, k1, k2, k3, k4, k5, k6⟩ := (HRG.out.below HB2.out).M.mv hlt2
          have HT := Lib.hid (take_snocZ hL2)
          have HME := Lib.hid (List.mem_of_getElem? hL2)
          clear hL2
          by_cases g1 : md < 0
          · have hf := Lib.hid (show E = 78 by rw [HE3.out, if_neg (movesB_day HSC.out HME.out (by simp only; omega))])
            go_wp2
            go_ret
            exact ⟨by rw [hf.out]; rfl, bal (bup HBr.out HB2.out) _⟩
          have d1 : decide (md < 0) = false := by simpa using g1
          by_cases g2 : 36000 < md
          · have hf := Lib.hid (show E = 78 by rw [HE3.out, if_neg (movesB_day HSC.out HME.out (by simp only; omega))])
            go_wp2
            go_ret
            exact ⟨by rw [hf.out]; rfl, bal (bup HBr.out HB2.out) _⟩
          have d2 : decide (36000 < md) = false := by simpa using g2
          go_wp2
          go_roundw
          case rel =>
            refine ⟨j + 1, by omega, by go_num, ?_, by rw [HW2.out]; exact bal HB2.out _⟩
            intro m hm
            rw [HT.out] at hm
            rcases List.mem_append.1 hm with hm | hm
            · exact HDY.out m hm
            · simp only [List.mem_singleton] at hm
              subst hm
              simp only
              omega
          case measure => simp [intOf]; omega
        · have hjn : j = n2 := by omega
          subst hjn
          have hall : ∀ m ∈ R.ms, m.day ≤ 36000 := by
            have q := HDY.out
            rw [take_all (by have := HN2.out; omega)] at q
            exact fun m hm => (q m hm).2
          have hD := fun W' (hW' : Below w.heap.size w W') => funtil_any P _ _ _ R 36000 W' (HH.out.below hW') (by have := HN0.out; omega) (by have := HN2.out; omega) HSC.out
          rw [repl_wd hall] at hD
          obtain ⟨Q, hQ⟩ : ∃ Q, repl R.secs wantAll R.ms 0 0 [] = Q := ⟨_, rfl⟩
          have hQl := repl_len R.secs wantAll R.ms 0 0 []
          rw [hQ] at hD hQl
          have HD := Lib.hid hD
          have HQ := Lib.hid hQ
          have hQl2 : Q.2.2.2.length ≤ 1000000 := by have := HN2.out; simp only [List.length_nil] at hQl; omega
          have HQL := Lib.hid hQl2
          clear hall hD hQ hQl hQl2
          have HBX := Lib.hid (bup HBr.out HB2.out)
          have HE4 := Lib.hid (show E = if (Q.1 && eqHs Q.2.2.2 R.hs) then 0 else 78 by rw [HE3.out]; unfold movesB; rw [HQ.out])
          go_wp2_with fail
          refine (HD.out _ HBX.out).mono ?_
          rintro e w1 ⟨v', rfl, hyes, hno, hb1⟩
          have t1 := keepB hb1 r1'
          have HB1 := Lib.hid (bup HBX.out hb1)
          clear hb1
          obtain ⟨q1, hq1⟩ : ∃ b, Q.1 = b := ⟨_, rfl⟩
          have HQ1 := Lib.hid hq1
          rw [hq1] at hyes hno ⊢
          clear hq1
          cases q1
          · have hf := Lib.hid (show E = 78 by rw [HE4.out, HQ1.out]; rfl)
            obtain rfl := hno rfl
            clear hyes hno
            go_wp2
            go_ret
            exact ⟨by rw [hf.out]; rfl, HB1.out⟩
          · obtain ⟨q2, hq2⟩ : ∃ b, eqHs Q.2.2.2 R.hs = b := ⟨_, rfl⟩
            have HQ2 := Lib.hid hq2
            have hS' := hyes rfl
            obtain ⟨lb, ln, lc, rfl, -, -, -⟩ := hS'.shape
            have HSV := Lib.hid hS'
            clear hq2 hyes hno hS'
            have heq := fhold_any _ _ _ _ Q.2.2.2 R.hs w1 HSV.out (HH.out.below HB1.out).H HQL.out
            rw [HQ2.out] at heq
            have HEQ := Lib.hid heq
            clear heq
            cases q2
            · have hf := Lib.hid (show E = 78 by rw [HE4.out, HQ1.out, HQ2.out]; rfl)
              go_wp2_with fail
              refine HEQ.out.mono ?_
              rintro e w2 ⟨rfl, nq, rfl⟩
              go_wp2
              go_ret
              exact ⟨by rw [hf.out]; rfl, below_drewZ HB1.out _⟩
            · have hf := Lib.hid (show E = 0 by rw [HE4.out, HQ1.out, HQ2.out]; rfl)
              go_wp2_with fail
              refine HEQ.out.mono ?_
              rintro e w2 ⟨rfl, nq, rfl⟩
              go_wp2
              go_ret
              exact ⟨by rw [hf.out]; rfl, below_drewZ HB1.out _⟩
end Go.Proofs.YthhoaefadfeknaaGreat
namespace Go.Proofs.YthhoaefadfeknaaGreat
open Go.RowKit
set_option linter.unusedVariables false
set_option linter.unusedSimpArgs false
/-- the day of the last move, or one of its own -/
def dayOr : List Mv → Int → Int
  | [], d => d
  | m :: ms, _ => dayOr ms m.day
theorem repl_day (secs : List Sec) : ∀ (ms : List Mv) (n d : Int) (hs : List Hold), (repl secs wantAll ms n d hs).1 = true → (repl secs wantAll ms n d hs).2.2.1 = dayOr ms d
  | [], n, d, hs, _ => rfl
  | m :: ms, n, d, hs, h => by
    simp only [repl, wantAll, if_true] at h ⊢
    split at h
    · rename_i hq
      rw [if_pos hq]
      exact repl_day secs ms _ _ _ h
    · cases h
theorem dayOr_last : ∀ {ms : List Mv} {d : Int} {k : Nat} {m : Mv}, ms.length = k + 1 → ms[k]? = some m → dayOr ms d = m.day
  | [], d, k, m, h, _ => by simp at h
  | [x], d, k, m, h, h2 => by
    simp only [List.length_cons, List.length_nil] at h
    obtain rfl : k = 0 := by omega
    simp only [List.getElem?_cons_zero, Option.some.injEq] at h2
    subst h2; rfl
  | x :: y :: ms, d, k, m, h, h2 => by
    simp only [List.length_cons] at h
    obtain ⟨j, rfl⟩ : ∃ j, k = j + 1 := ⟨k - 1, by omega⟩
    rw [List.getElem?_cons_succ] at h2
    exact dayOr_last (ms := y :: ms) (d := x.day) (by simp only [List.length_cons]; omega) h2
theorem RgOk.day {R : Reg} (h : RgOk R) : rgDay R = dayOr R.ms 0 := repl_day R.secs R.ms 0 0 [] h.ok
/-- append(nil, s...) is a copy of its own -/
theorem run_clone_row {P : Program} {α : Type} {z : Nat} {enc : α → List Value} (hlen : ∀ a, (enc a).length = z) (hone : ∀ a, ∀ u ∈ enc a, u.oneCell' = true) {Q : Nat → Prop} (w : World) {ao : Option Addr} {n c : Nat} {L : List α} (hS : Sl z enc Q w (.slice ao n c) L)
    (t ty e : TypeId) (i : TypeInfo) (zv : Value) (bytes : Nat) (ht : P.underlying t = some (.slice e)) (hi : P.info? e = some i) (hz : i.zero = some zv) (hsize : i.size = z) (hby : i.bytes = bytes) (hzs : zv.cells.size = z) (hsz : 0 < z) (hn : n ≤ 1000000) (hbb : bytes ≤ 1000) :
    ∃ a' c' w', (Builtin.append_ #[t, t] ty #[.slice none 0 0, .slice ao n c]).run P w = .ok (.slice a' n c') w' ∧ w'.ownsRow w.heap.size e z (.slice a' n c') n (flatE enc L) ∧ w.grownBy w' none := by
  obtain ⟨ao', n', c', h1, h2, h3, h4, h5⟩ := hS
  cases h1
  cases ao with
  | none =>
    have h0 : n = 0 := by
      rcases h5 with h | ⟨b, off, h, _⟩
      · exact h
      · cases h
    subst h0
    have hL : L = [] := List.eq_nil_of_length_eq_zero h2
    subst hL
    exact ⟨none, 0, w, by simp [Builtin.append_, run_underlying ht, sizeOf, typeInfo, hi, Builtin.lenOf, Builtin.firstCells], World.ownsRow_nil _ _ _ _, ⟨rfl, rfl, rfl, Nat.le_refl _, fun _ _ _ => rfl⟩⟩
  | some a =>
    have hsrc : ∀ j u, (flatE enc L)[j]? = some u → w.cell? (a.add j) = some u := by
      rcases h5 with h | ⟨b, off, h, _, hb, hc⟩
      · have hL : L = [] := List.eq_nil_of_length_eq_zero (by omega)
        subst hL
        intro j u hj
        simp [flatE] at hj
      · cases h
        intro j u hj
        rw [add_litZ]
        exact flatE_cells hlen L off hc j u hj
    obtain ⟨v', w', hr, ho, hg, -, -⟩ := run_append_own_at (P := P) w w.heap.size t ty e i zv z bytes ht hi hz hsize hby hzs hsz (.slice none 0 0) 0 [] (World.ownsRow_nil _ _ _ _) a n c (flatE enc L) (by rw [flatE_length hlen, h2]) hsrc (oneE hone L) (by unfold maxLen; omega) (by rw [Nat.zero_add]; exact Nat.le_trans (Nat.mul_le_mul hn hbb) (by omega)) (Nat.le_refl _)
    rw [Nat.zero_add, List.nil_append] at ho
    obtain ⟨a', c', rfl⟩ := own_slice0 ho
    exact ⟨a', c', w', hr, ho, hg⟩
/-- append(append(nil, s...), x) in whichever order its memory is made -/
theorem run_clone_one {P : Program} {α : Type} {z : Nat} {enc : α → List Value} (hlen : ∀ a, (enc a).length = z) (hone : ∀ a, ∀ u ∈ enc a, u.oneCell' = true) {Q : Nat → Prop} (w : World) {ao : Option Addr} {n c : Nat} {L : List α} (hS : Sl z enc Q w (.slice ao n c) L) (x : α)
    (t ty ty2 e : TypeId) (i : TypeInfo) (zv : Value) (bytes : Nat) (ht : P.underlying t = some (.slice e)) (hi : P.info? e = some i) (hz : i.zero = some zv) (hsize : i.size = z) (hby : i.bytes = bytes) (hzs : zv.cells.size = z) (hsz : 0 < z) (hn : n ≤ 100000) (hbb : bytes ≤ 1000) (cs : Array Value) (hcs : cs = (enc x).toArray) :
    (∃ a1 c1 W1 a2 c2 W2, (Builtin.append_ #[t, t] ty #[.slice none 0 0, .slice ao n c]).run P w = .ok (.slice a1 n c1) W1 ∧ (Builtin.append_ #[t, t] ty2 #[.slice a1 n c1, .slice (some ⟨W1.heap.size, 0, none⟩) 1 1]).run P (W1.alloc (.cells cs e (0, 0))) = .ok (.slice a2 (n + 1) c2) W2 ∧ W2.ownsRow w.heap.size e z (.slice a2 (n + 1) c2) (n + 1) (flatE enc (L ++ [x])) ∧ Below w.heap.size w W2 ∧ Below w.heap.size w W1) ∧
    (∃ a1 c1 W1 a2 c2 W2, (Builtin.append_ #[t, t] ty #[.slice none 0 0, .slice ao n c]).run P (w.alloc (.cells cs e (0, 0))) = .ok (.slice a1 n c1) W1 ∧ (Builtin.append_ #[t, t] ty2 #[.slice a1 n c1, .slice (some ⟨w.heap.size, 0, none⟩) 1 1]).run P W1 = .ok (.slice a2 (n + 1) c2) W2 ∧ W2.ownsRow w.heap.size e z (.slice a2 (n + 1) c2) (n + 1) (flatE enc (L ++ [x])) ∧ Below w.heap.size w W2 ∧ Below w.heap.size w W1) := by
  have hflat : flatE enc (L ++ [x]) = flatE enc L ++ enc x := by simp [flatE]
  rw [hflat]
  have hmax : n + 1 ≤ maxLen := by unfold maxLen; omega
  have hbt : (n + 1) * bytes ≤ 140737488355328 := Nat.le_trans (Nat.mul_le_mul (show n + 1 ≤ 100001 by omega) hbb) (by omega)
  subst hcs
  refine ⟨?_, ?_⟩
  · obtain ⟨a1, c1, W1, hr1, ho1, hg1⟩ := run_clone_row hlen hone w hS t ty e i zv bytes ht hi hz hsize hby hzs hsz (by omega) hbb
    have z1 := hg1.size
    have hB1 : Below w.heap.size w W1 := ⟨hg1.os, hg1.tape, hg1.output, hg1.size, fun k hk => hg1.block k hk (by simp)⟩
    have ho1' : (W1.alloc (.cells (enc x).toArray e (0, 0))).ownsRow w.heap.size e z (.slice a1 n c1) n (flatE enc L) := ho1.alloc _
    have hnew : ∀ j u, (enc x)[j]? = some u → (W1.alloc (.cells (enc x).toArray e (0, 0))).cell? ((⟨W1.heap.size, 0, none⟩ : Addr).add j) = some u := by
      intro j u hj
      rw [add_litZ, Nat.zero_add]
      exact cell_whole (heap_alloc_new W1 _) hj
    obtain ⟨v2, W2, hr2, ho2, hg2, -, -⟩ := run_append_own_at (P := P) (W1.alloc (.cells (enc x).toArray e (0, 0))) w.heap.size t ty2 e i zv z bytes ht hi hz hsize hby hzs hsz _ _ _ ho1' ⟨W1.heap.size, 0, none⟩ 1 1 (enc x) (by rw [hlen]; omega) hnew (hone x) hmax hbt (by simp; omega)
    obtain ⟨a2, c2, rfl⟩ := own_slice0 ho2
    refine ⟨a1, c1, W1, a2, c2, W2, hr1, hr2, ho2, (hB1.alloc z1 _).grown hg2 (by simp; omega) (fun k hk => (ho1.lt k hk).1), hB1⟩
  · have hS' := hS.alloc (.cells (enc x).toArray e (0, 0))
    obtain ⟨a1, c1, W1, hr1, ho1, hg1⟩ := run_clone_row hlen hone (w.alloc (.cells (enc x).toArray e (0, 0))) hS' t ty e i zv bytes ht hi hz hsize hby hzs hsz (by omega) hbb
    have z1 := hg1.size
    rw [World.size_alloc] at z1
    have hB1 : Below w.heap.size w W1 := (bal brefl _).trans ⟨hg1.os, hg1.tape, hg1.output, hg1.size, fun k hk => hg1.block k (by rw [World.size_alloc]; omega) (by simp)⟩
    have hnew : ∀ j u, (enc x)[j]? = some u → W1.cell? ((⟨w.heap.size, 0, none⟩ : Addr).add j) = some u := by
      intro j u hj
      rw [add_litZ, Nat.zero_add]
      refine (World.cell?_of_block (a := ⟨w.heap.size, j, none⟩) (hg1.block _ (by simp) (by simp))).trans ?_
      exact cell_whole (heap_alloc_new w _) hj
    obtain ⟨v2, W2, hr2, ho2, hg2, -, -⟩ := run_append_own_at (P := P) W1 w.heap.size t ty2 e i zv z bytes ht hi hz hsize hby hzs hsz _ _ _ (ownsRow_baseZ ho1 (by simp)) ⟨w.heap.size, 0, none⟩ 1 1 (enc x) (by rw [hlen]; omega) hnew (hone x) hmax hbt (by omega)
    obtain ⟨a2, c2, rfl⟩ := own_slice0 ho2
    refine ⟨a1, c1, W1, a2, c2, W2, hr1, hr2, ho2, hB1.grown hg2 (by omega) (fun k hk => by have := (ho1.lt k hk).1; rw [World.size_alloc] at this; omega), hB1⟩
end Go.Proofs.YthhoaefadfeknaaGreat
