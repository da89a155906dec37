/- the reference's register: move whole, until. -/
import Derived.Test.YthjaofgdickkaaaGreatRefE1
import Derived.Test.YthjaofgdickkaaaGreatRefE2
import Derived.Test.YthjaofgdickkaaaGreatRefE3
namespace Go.Proofs.YthjaofgdickkaaaGreat
open Go.RowKit
set_option linter.unusedVariables false
set_option linter.unusedSimpArgs false
/-- kinds and holders as until asks for them -/
def kindOk (m : Mv) : Prop := (1 ≤ m.kind ∧ m.kind ≤ 3) ∧ (m.kind = 1 → m.f = 0) ∧ (m.kind = 3 → m.t = 0)
theorem fmove_any (P : Nat → Prop) (vs vh vm v : Value) (R : Reg) (L : List Hold) (day num md k s f t a : Int) (w : World) (hr : RgIn P w vs vh vm R) (hS : Sl 3 encHold P w v L) (hlen : R.secs.length ≤ 1000000) (hL : L.length ≤ 900000) (hok : HsOk L) (hsec : ∀ s ∈ R.secs, secOk s = true) (hk : kindOk ⟨num, md, k, s, f, t, a⟩) :
    Calls Tryz.prog 280 #[.agg #[vs, vh, vm], v, .int .i64 day, .agg #[.int .i64 num, .int .i64 md, .int .i64 k, .int .i64 s, .int .i64 f, .int .i64 t, .int .i64 a]] w (MovedL (mvE R.secs L day ⟨num, md, k, s, f, t, a⟩) (mvH L ⟨num, md, k, s, f, t, a⟩) w) := by
  cases hf : findS R.secs s with
  | none => exact fmove_none P vs vh vm v R L day num md k s f t a w hr hS hlen hL hok hsec hf
  | some S =>
    obtain ⟨⟨k1, k2⟩, k3, k4⟩ := hk
    simp only at k1 k2 k3 k4
    obtain ⟨id, un, is, ma, ra, ev, ix⟩ := S
    have hk : k = 1 ∨ k = 2 ∨ k = 3 := by omega
    rcases hk with rfl | rfl | rfl
    · exact fmove_k1 P vs vh vm v R L day num md s f t a w hr hS hlen hL hok hsec id un is ma ra ev ix hf (k3 rfl)
    · exact fmove_k2 P vs vh vm v R L day num md s f t a w hr hS hlen hL hok hsec id un is ma ra ev ix hf
    · exact fmove_k3 P vs vh vm v R L day num md s f t a w hr hS hlen hL hok hsec id un is ma ra ev ix hf (k4 rfl)
theorem mvOk_kind {secs : List Sec} {hs : List Hold} {day : Int} {m : Mv} (h : MvOk secs hs day m) (hk : 1 ≤ m.kind ∧ m.kind ≤ 3) : kindOk m := by
  refine ⟨hk, fun h1 => ?_, fun h3 => ?_⟩
  · have := h.st
    unfold strangeB at this
    rw [if_pos h1] at this
    simp only [Bool.or_eq_false_iff] at this
    simpa using this.1
  · have := h.st
    unfold strangeB at this
    rw [if_neg (by omega), if_neg (by omega)] at this
    simp only [Bool.or_eq_false_iff] at this
    simpa using this.2
/-- what until leaves -/
def Until (X : Bool × Int × Int × List Hold) (w : World) (e : Ending) (w' : World) : Prop :=
  ∃ v, e = .returned (.tuple #[v, .bool X.1]) ∧ (X.1 = true → Sl 3 encHold (fun b => w.heap.size ≤ b) w' v X.2.2.2) ∧ (X.1 = false → v = .slice none 0 0) ∧ Below w.heap.size w w'
theorem until_no {X : Bool × Int × Int × List Hold} {k d : Int} {hs : List Hold} {w w' : World} (h : X = (false, k, d, hs)) (hb : Below w.heap.size w w') : Until X w (.returned (.tuple #[.slice none 0 0, .bool false])) w' := by
  subst h; exact ⟨_, rfl, (fun h => by cases h), (fun _ => rfl), hb⟩
theorem until_yes {X : Bool × Int × Int × List Hold} {k d : Int} {hs : List Hold} {w w' : World} {v : Value} (h : X = (true, k, d, hs)) (hs : Sl 3 encHold (fun b => w.heap.size ≤ b) w' v hs) (hb : Below w.heap.size w w') : Until X w (.returned (.tuple #[v, .bool true])) w' := by
  subst h; exact ⟨_, rfl, (fun _ => hs), (fun h => by cases h), hb⟩
theorem holdNil (P : Nat → Prop) (w : World) : Sl 3 encHold P w (.slice none 0 0) [] := ⟨none, 0, 0, rfl, rfl, Nat.le_refl _, Nat.zero_le _, .inl rfl⟩
set_option maxHeartbeats 8000000 in
set_option maxRecDepth 100000 in
theorem funtil_any (P : Nat → Prop) (vs vh vm : Value) (R : Reg) (dd : Int) (w : World) (hr : RgIn P w vs vh vm R) (hlen : R.secs.length ≤ 1000000) (hml : R.ms.length ≤ 1000) (hsec : ∀ s ∈ R.secs, secOk s = true) :
    Calls Tryz.prog 219 #[.agg #[vs, vh, vm], .int .i64 dd] w (Until (repl R.secs (wantDay dd) R.ms 0 0 []) w) := by
  obtain ⟨a0, n0, c0, rfl, -, -, -⟩ := hr.S.shape
  obtain ⟨a1, n1, c1, rfl, -, -, -⟩ := hr.H.shape
  obtain ⟨ao, n, c, rfl, hn, hnc, hcm⟩ := hr.M.shape
  have hn1 : n ≤ 1000 := by omega
  obtain ⟨X, hX⟩ : ∃ X, repl R.secs (wantDay dd) R.ms 0 0 [] = X := ⟨_, rfl⟩
  have HRG := Lib.hid hr.any
  have HN := Lib.hid hn
  have HX := Lib.hid hX
  have HSEC := Lib.hid hsec
  rw [hX]
  clear hr hn hX hsec hml
  go_enter Tryz.func219, Tryz.ntmps219
  go_wp2
  obtain ⟨W, hW⟩ : ∃ W, W = (w.alloc (.cells #[.slice a0 n0 c0, .slice a1 n1 c1, .slice ao n c] 31)) := ⟨_, rfl⟩
  have hbW : Below w.heap.size w W := by rw [hW]; exact bal brefl _
  have zW : W.heap.size = w.heap.size + 1 := by rw [hW]; simp
  have hc0 : W.cell? ⟨w.heap.size, 0, none⟩ = some (.slice a0 n0 c0) := by rw [hW, World.cell?_alloc_at _ _ _ _ (by simp)]; rfl
  have hc1 : W.cell? ⟨w.heap.size, 1, none⟩ = some (.slice a1 n1 c1) := by rw [hW, World.cell?_alloc_at _ _ _ _ (by simp)]; rfl
  have hc2 : W.cell? ⟨w.heap.size, 2, none⟩ = some (.slice ao n c) := by rw [hW, World.cell?_alloc_at _ _ _ _ (by simp)]; rfl
  have HC := Lib.hid (And.intro hc0 (And.intro hc1 hc2))
  have HBW := Lib.hid hbW
  clear hbW hc0 hc1 hc2
  go_loopw [6, 7, 15] (fun lv dv iv wr => ∃ (k : Nat) (day : Int) (hs : List Hold), k ≤ n ∧ iv = .int .i64 k ∧ dv = .int .i64 day ∧ Sl 3 encHold (fun b => w.heap.size ≤ b) wr lv hs ∧ HsOk hs ∧ hs.length ≤ 2 * k ∧ X = repl R.secs (wantDay dd) (R.ms.drop k) k day hs ∧ Below W.heap.size W wr) (fun _ _ iv _ => n - (intOf iv).toNat)
  case atStart => exact ⟨0, 0, [], by omega, rfl, rfl, holdNil _ _, HsOk.nil, by simp, by rw [List.drop_zero]; exact HX.out.symm, by rw [hW]; exact Below.refl _ _⟩
  case round =>
    obtain ⟨k, day, hs, hk, rfl, rfl, hS, hok, hhl, hRk, hbr⟩ := hrel
    have zr := hbr.size
    rw [zW] at zr
    have zx : w.heap.size < wr.heap.size := by omega
    have hBr : Below w.heap.size w wr := HBW.out.trans (hbr.mono (by omega))
    obtain ⟨lb, ln, lc, rfl, -, -, -⟩ := hS.shape
    have hc0 := keepB hbr HC.out.1
    have hc1 := keepB hbr HC.out.2.1
    have hc2 := keepB hbr HC.out.2.2
    have HBR := Lib.hid hbr
    have HBr := Lib.hid hBr
    have HS := Lib.hid hS
    have HOK := Lib.hid hok
    clear hS hok hbr hBr
    by_cases hlt : k < n
    · obtain ⟨b, off, mn, md, mk, mS, mf, mt, ma, rfl, -, hb', hL, k0, k1, k2, k3, k4, k5, k6⟩ := (HRG.out.below HBr.out).M.mv hlt
      rw [drop_cons hL] at hRk
      simp only [repl, wantDay] at hRk
      have HRK := Lib.hid hRk
      clear hL hRk
      by_cases hd : dd < md
      · have hfin := Lib.hid (show X = (true, (k : Int), day, hs) by rw [HRK.out, decide_eq_false (by omega)]; rfl)
        go_wp2
        go_ret2
        exact until_yes hfin.out (HS.out.alloc _) (bal HBr.out _)
      have gd : decide (dd < md) = false := by simpa using hd
      have hR2 : X = if stepB R.secs k day hs ⟨mn, md, mk, mS, mf, mt, ma⟩ then repl R.secs (wantDay dd) (R.ms.drop (k + 1)) (k + 1) md (mvH hs ⟨mn, md, mk, mS, mf, mt, ma⟩) else (false, (k : Int), day, hs) := by rw [HRK.out, if_pos (by rw [decide_eq_true (by omega)])]
      have HR2 := Lib.hid hR2
      have hwk : IntKind.i64.wrap ((k : Int) + 1) = (k : Int) + 1 := IntWalk.i64_in _ (by omega)
      clear hR2 HRK
      by_cases hnum : mn = (k : Int) + 1
      rotate_left
      · have hfin := Lib.hid (show X = (false, (k : Int), day, hs) by rw [HR2.out, if_neg (fun q => hnum (stepB_iff.1 q).1)])
        have n1 : (mn != (k : Int) + 1) = true := by simpa using hnum
        have n2 : (mn == (k : Int) + 1) = false := by simpa using hnum
        go_wp2
        go_ret2
        exact until_no hfin.out (bal HBr.out _)
      subst hnum
      by_cases g1 : mk < 1
      · have hfin := Lib.hid (show X = (false, (k : Int), day, hs) by rw [HR2.out, if_neg (fun q => by have := (stepB_iff.1 q).2.1; simp only at this; omega)])
        go_wp2
        go_ret2
        exact until_no hfin.out (bal HBr.out _)
      have d1 : decide (mk < 1) = false := by simpa using g1
      by_cases g2 : 3 < mk
      · have hfin := Lib.hid (show X = (false, (k : Int), day, hs) by rw [HR2.out, if_neg (fun q => by have := (stepB_iff.1 q).2.1; simp only at this; omega)])
        go_wp2
        go_ret2
        exact until_no hfin.out (bal HBr.out _)
      have d2 : decide (3 < mk) = false := by simpa using g2
      by_cases hko : kindOk ⟨(k : Int) + 1, md, mk, mS, mf, mt, ma⟩
      rotate_left
      · have hfin := Lib.hid (show X = (false, (k : Int), day, hs) by rw [HR2.out, if_neg (fun q => hko (mvOk_kind (stepB_iff.1 q).2.2 (stepB_iff.1 q).2.1))])
        have hkk : (mk = 1 ∧ mf ≠ 0) ∨ (mk = 3 ∧ mt ≠ 0) := by
          simp only [kindOk] at hko
          omega
        clear hko
        rcases hkk with ⟨rfl, hf0⟩ | ⟨rfl, ht0⟩
        · go_wp2
          go_ret2
          exact until_no hfin.out (bal HBr.out _)
        · go_wp2
          go_ret2
          exact until_no hfin.out (bal HBr.out _)
      obtain ⟨E, hE⟩ : ∃ E, mvE R.secs hs day ⟨(k : Int) + 1, md, mk, mS, mf, mt, ma⟩ = E := ⟨_, rfl⟩
      obtain ⟨H2, hH2⟩ : ∃ H2, mvH hs ⟨(k : Int) + 1, md, mk, mS, mf, mt, ma⟩ = H2 := ⟨_, rfl⟩
      have hD : ∀ W', Below wr.heap.size wr W' → _ := fun W' hW' => fmove_any (fun _ => True) _ _ _ _ R hs day ((k : Int) + 1) md mk mS mf mt ma W' ((HRG.out.below HBr.out).below hW') ((HS.out.mono (fun _ _ _ => trivial)).below hW') hlen (by omega) HOK.out HSEC.out hko
      rw [hE, hH2] at hD
      have HD := Lib.hid hD
      have HE := Lib.hid hE
      have HH2 := Lib.hid hH2
      have hkb : (mk = 1 → mf = 0) ∧ (mk = 3 → mt = 0) := hko.2
      have HKO := Lib.hid hko
      clear hE hH2 hD hko
      have hk3 : (mk = 1 ∧ mf = 0) ∨ mk = 2 ∨ (mk = 3 ∧ mt = 0) := by have := HKO.out; simp only [kindOk] at this; omega
      clear hkb g1 g2 d1 d2
      rcases hk3 with ⟨rfl, rfl⟩ | rfl | ⟨rfl, rfl⟩
      all_goals
        go_wp2_with fail
        refine (HD.out _ (bal brefl _)).mono ?_
        rintro e w1 ⟨v', rfl, hnil, hown, hb1⟩
        have q1 := boxed_cell hb1 1 rfl
        have z1 := hb1.size
        rw [World.size_alloc] at z1
        by_cases hE0 : E = 0
        · subst hE0
          have ho := hown rfl
          obtain ⟨lb', lc', rfl⟩ := own_slice0 ho
          have HSL := Lib.hid (Sl.own (L := H2) encHold_len ho rfl (P := fun b => w.heap.size ≤ b) (fun b hb => by rw [World.size_alloc] at hb; omega))
          have hRn : X = repl R.secs (wantDay dd) (R.ms.drop (k + 1)) (k + 1) md H2 := by rw [HR2.out, if_pos (by unfold stepB; rw [HE.out]; simp [inB]), HH2.out]
          have HRN := Lib.hid hRn
          have hok2 : HsOk H2 := by rw [← HH2.out]; exact mvH_ok HOK.out (mvOk_iff.1 HE.out)
          have hl2 : H2.length ≤ 2 * (k + 1) := by
            have hl := HH2.out
            rw [← hl]
            refine Nat.le_trans (mvH_len hs _) ?_
            omega
          have HOK2 := Lib.hid hok2
          have HB1 := Lib.hid (bup (bal HBR.out _) hb1)
          clear hRn hok2 ho hown hnil hb1
          go_wp2
          go_quiet (fail)
          go_wp2
          go_roundw
          case rel => exact ⟨k + 1, md, H2, by omega, by go_num, rfl, HSL.out.drewN _, HOK2.out, hl2, by rw [show ((k + 1 : Nat) : Int) = (k : Int) + 1 by omega]; exact HRN.out, below_drewZ HB1.out _⟩
          case measure => simp [intOf]; omega
        · have hfin := Lib.hid (show X = (false, (k : Int), day, hs) by rw [HR2.out, if_neg (fun q => by unfold stepB at q; rw [HE.out] at q; simp [hE0] at q)])
          obtain rfl := hnil hE0
          have e1 : (E != 0) = true := by simpa using hE0
          have e2 : (E == 0) = false := by simpa using hE0
          have HB1 := Lib.hid (bup (bal HBr.out _) hb1)
          clear hown hnil hb1
          go_wp2
          go_ret2
          exact until_no hfin.out HB1.out
    · have hkn : k = n := by omega
      subst hkn
      have hfin : X = (true, (k : Int), day, hs) := by rw [hRk, drop_all (by have := HN.out; omega)]; rfl
      have HF := Lib.hid hfin
      clear hfin hRk
      go_wp2
      go_ret2
      exact until_yes HF.out HS.out HBr.out
end Go.Proofs.YthjaofgdickkaaaGreat
