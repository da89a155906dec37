/- slices.Concat at rows of numbers; slices.Grow of the nil slice. slices.insertionSortCmpFunc, SortStableFunc's blocks, at [](struct).  slices.SortFunc at awards, at most twelve of them: the insertion sort alone (out of XSrtF). money.Parts in plain: what the parts are. Buyback: Hold, plain. Buyback: the ranks while they grow; the drawn region of Hold, by what has been carried out. Buyback: Hold.  Buyback: Given, Same; the chapter's example. BuybackSaves: the walk. -/
import Derived.Test.YthjaofgdickkaaaGreatV3
import Derived.Lib.AppendZerosOnto
import Derived.Test.YthjaofgdickkaaaGreatV2
import Derived.Test.YthjaofgdickkaaaGreatUp
import Derived.RegionTactic
import Derived.ChangeAlike
import Derived.BigRegion
import Derived.BigQuiet
import Derived.Deep.DeepCutAuto
import Derived.Deep.CutBlock
import Derived.Shelf.Abstract
import Derived.Maps.AppendAt
namespace Go.Proofs.YthjaofgdickkaaaGreat
open Go.RowKit
set_option linter.unusedVariables false
set_option linter.unusedSimpArgs false
theorem wzC (z : Int) (h : -2000000000 ≤ z ∧ z ≤ 2000000000) : wrap64 z = z ∧ IntKind.i64.wrap z = z := ⟨IntWalk.wrap64_in _ (by omega), IntWalk.i64_in _ (by omega)⟩
theorem wpList_app_run {P : Program} {w : World} {ops : Array Oper} {rest : List Oper} {o : Oper} {a : Act} {Q : Exit → Act → World → Prop} (hgd : o.guard = none) (x y : Operand) (t tn : TypeId) (ho : o.op = .call { callee := .builtin .append, args := #[x, y], argTypes := #[t, tn] })
    (vx vy : Value) (hx : a.eval x = vx) (hy : a.eval y = vy) {v' : Value} {w' : World} (hrun : (Builtin.append_ #[t, tn] o.type #[vx, vy]).run P w = .ok v' w') (h : wpList P ops Q rest (a.put o.dst v') w') : wpList P ops Q (o :: rest) a w := by
  refine wpList_plain hgd fun K hK => ?_
  unfold Oper.wp
  simp [execOp, ho, resolve, invoke, builtin, hx, hy, hrun, Result.andThen]
  exact hK _ _ h
set_option maxHeartbeats 4000000 in
set_option maxRecDepth 100000 in
theorem grow0_any (n : Nat) (hn : n ≤ 1000000) (w : World) : Calls Tryz.prog 264 #[.slice none 0 0, .int .i64 n] w fun e w' => ∃ v, e = .returned v ∧ w'.ownsRow w.heap.size 3 1 v 0 [] ∧ Below w.heap.size w w' := by
  obtain ⟨i1, hi, hz0, hz1, hz2⟩ := info_parts infoInt
  have HW := Lib.hid (wzC (n : Int) (by omega))
  have hnn : ¬ ((n : Int) < 0) := by omega
  cases n with
  | zero =>
    clear HW
    go_enter Tryz.func264, Tryz.ntmps264
    go_wp2
    go_ret
    exact ⟨_, rfl, World.ownsRow_nil _ _ _ _, brefl⟩
  | succ n =>
    obtain ⟨m, hm⟩ : ∃ m, n + 1 = m := ⟨_, rfl⟩
    rw [hm] at HW hnn ⊢
    have hm0 : 0 < m := by omega
    have hm1 : m ≤ 1000000 := by omega
    have hmz : (0 : Int) < (m : Int) := by omega
    have hrz := Lib.run_append_nil_zeros w 22 3 22 3 i1 (.int .i64 0) .i64 .i64 Tryz.underlying22 Tryz.underlying3 hi hz0 m hm0 (by rw [hz1]; decide) (by omega) (by rw [hz2]; omega)
    have hG := grownCap_ge w m 0 3
    have hG2 := grownCap_le_maxLen w m 0 3 (by unfold maxLen; omega)
    obtain ⟨G, hGG⟩ : ∃ G, grownCap w m 0 3 = G := ⟨_, rfl⟩
    rw [hGG] at hrz hG hG2
    have hcs : (Builtin.zeroCells (Value.int .i64 0).cells m ++ Builtin.zeroCells (Value.int .i64 0).cells (G - m)).size = G * 1 := by
      simp [Builtin.zeroCells, Value.cells]; omega
    obtain ⟨C, hC⟩ : ∃ C, Builtin.zeroCells (Value.int .i64 0).cells m ++ Builtin.zeroCells (Value.int .i64 0).cells (G - m) = C := ⟨_, rfl⟩
    rw [hC] at hrz hcs
    have HF := Lib.hid (And.intro (World.ownsRow_made (base := w.heap.size) (e := 3) (size := 1) w.drew C G (Nat.le_refl _) hG2 hcs) (bal (bdr (brefl (w := w))) (.cells C 3 (0, 0))))
    obtain ⟨hwm, him⟩ := HW.out
    clear hC hcs hGG HW hm hi hz0 hz1 hz2
    go_enter Tryz.func264, Tryz.ntmps264
    go_wp2_with (at_builtin; refine wpList_app_run rfl _ _ 22 3 rfl _ _ rfl rfl hrz ?_)
    go_ret
    exact ⟨_, rfl, HF.out.1, HF.out.2⟩
/-- the lengths of the first k rows together -/
def lenT (GG : List (List Int)) (k : Nat) : Nat := ((GG.take k).map List.length).sum
theorem lenT_succ {GG : List (List Int)} {k : Nat} {G : List Int} (h : GG[k]? = some G) : lenT GG (k + 1) = lenT GG k + G.length := by
  unfold lenT
  rw [take_snocZ h, List.map_append, List.sum_append]; simp
theorem lenT_bd {GG : List (List Int)} (hk : ∀ g ∈ GG, g.length ≤ 100) : ∀ k, lenT GG k ≤ k * 100
  | 0 => by simp [lenT]
  | k + 1 => by
    have ih := lenT_bd hk k
    cases h : GG[k]? with
    | none =>
      have hl : GG.length ≤ k := by simpa using h
      unfold lenT at ih ⊢
      rw [List.take_of_length_le (show GG.length ≤ k + 1 by omega)]
      rw [List.take_of_length_le hl] at ih
      omega
    | some G => rw [lenT_succ h]; have := hk G (List.mem_of_getElem? h); omega
theorem flat_snocY {GG : List (List Int)} {k : Nat} {G : List Int} (h : GG[k]? = some G) : (GG.take (k + 1)).flatten = (GG.take k).flatten ++ G := by
  rw [take_snocZ h, List.flatten_append]; simp
theorem flat_lenY {GG : List (List Int)} (k : Nat) : (GG.take k).flatten.length = lenT GG k := by unfold lenT; rw [List.length_flatten]
theorem flatE_appZ {α : Type} {enc : α → List Value} (A B : List α) : flatE enc (A ++ B) = flatE enc A ++ flatE enc B := by simp [flatE]
set_option maxHeartbeats 4000000 in
set_option maxRecDepth 100000 in
theorem concat_any (P : Nat → Prop) (v : Value) (GG : List (List Int)) (w : World) (hS : SlsI P w v GG) (hn : GG.length ≤ 100) (hk : ∀ g ∈ GG, g.length ≤ 100) (hne : ∀ g ∈ GG, g ≠ []) :
    Calls Tryz.prog 208 #[v] w fun e w' => ∃ v', e = .returned v' ∧ w'.ownsRow w.heap.size 3 1 v' GG.flatten.length (flatE encI GG.flatten) ∧ Below w.heap.size w w' := by
  obtain ⟨ao, n, c, rfl, hnn, -, -⟩ := hS.shape
  have hn100 : n ≤ 100 := by omega
  have HS := Lib.hid hS
  have HN := Lib.hid hnn
  have HLB := Lib.hid (fun k => lenT_bd hk k)
  have HK := Lib.hid hk
  have HNE := Lib.hid hne
  obtain ⟨i1, hi, hz0, hz1, hz2⟩ := info_parts infoInt
  clear hS hnn hk hne hn
  go_enter Tryz.func208, Tryz.ntmps208
  go_wp2
  go_loopw [11, 3] (fun iv sv wr => ∃ k : Nat, k ≤ n ∧ iv = .int .i64 k ∧ sv = .int .i64 (lenT GG k : Nat) ∧ Below w.heap.size w wr) (fun iv _ _ => n - (intOf iv).toNat)
  case atStart => exact ⟨0, by omega, rfl, by simp [lenT], brefl⟩
  case round =>
    obtain ⟨k, hkn, rfl, rfl, hbr⟩ := hrel
    have zr := hbr.size
    have hlb := HLB.out k
    by_cases hlt : k < n
    · obtain ⟨bb, off, ga, gn, gc, G, rfl, -, hbb, hG, k0, hgn, hSG⟩ := (HS.out.below hbr).at_ hlt
      have hkz : (k : Int) < (n : Int) := by omega
      have hls := Lib.hid (lenT_succ hG)
      have hg100 := HK.out G (List.mem_of_getElem? hG)
      rw [hgn] at hg100
      obtain ⟨S, hSS⟩ : ∃ S, lenT GG k = S := ⟨_, rfl⟩
      rw [hSS] at hls hlb ⊢
      have HW := Lib.hid (wzC ((S : Int) + (gn : Int)) (by omega))
      have HWK := Lib.hid (wzC ((k : Int) + 1) (by omega))
      have hnz : ¬ ((S : Int) + (gn : Int) < 0) := by omega
      have HGN := Lib.hid hgn
      have HBR := Lib.hid hbr
      clear hG hSG hgn hbr hSS hlb hg100
      obtain ⟨hw1, hi1⟩ := HW.out
      go_wp2
      go_roundw
      case rel => exact ⟨k + 1, by clear hw1 hi1; omega, by clear hw1 hi1; go_num, by rw [hls.out, HGN.out]; rfl, HBR.out⟩
      case measure => clear hw1 hi1; simp [intOf]; omega
    · have hkn2 : k = n := by omega
      have HBR := Lib.hid hbr
      obtain ⟨S, hSS⟩ : ∃ S, lenT GG k = S := ⟨_, rfl⟩
      rw [hSS] at hlb ⊢
      have hS6 : S ≤ 1000000 := by omega
      obtain ⟨wo, hwo⟩ : ∃ u, u = wr := ⟨wr, rfl⟩
      subst hwo
      clear hbr hlb
      go_wp2_with fail
      refine (grow0_any S hS6 _).mono ?_
      rintro e w2 ⟨v2, rfl, ho2, hb2⟩
      have HO2 := Lib.hid (ownsRow_baseZ ho2 zr)
      have HB2 := Lib.hid (bup HBR.out hb2)
      clear ho2 hb2
      go_wp2
      go_loopw [27, 6] (fun iv ov wr => ∃ j : Nat, j ≤ n ∧ iv = .int .i64 j ∧ wr.ownsRow w.heap.size 3 1 ov (GG.take j).flatten.length (flatE encI (GG.take j).flatten) ∧ Below w.heap.size w wr) (fun iv _ _ => n - (intOf iv).toNat)
      case atStart => exact ⟨0, by omega, rfl, HO2.out, HB2.out⟩
      case round =>
        obtain ⟨j, hj, rfl, hown, hbr⟩ := hrel
        have zj := hbr.size
        by_cases hjt : j < n
        · obtain ⟨bb, off, ga, gn, gc, G, rfl, -, hbb, hG, k0, hgn, hSG⟩ := (HS.out.below hbr).at_ hjt
          have hjz : (j : Int) < (n : Int) := by omega
          have hm := List.mem_of_getElem? hG
          have hg100 := HK.out G hm
          have hgne := HNE.out G hm
          have hg0 : 0 < gn := by rw [← hgn]; exact List.length_pos_iff.2 hgne
          obtain ⟨ga', gn', gc', q1, q2, q3, q4, q5⟩ := hSG
          cases q1
          rcases q5 with q5 | ⟨gb, goff, q6, -, q7, q8⟩
          · omega
          subst q6
          have hsrc : ∀ (i : Nat) (u : Value), (flatE encI G)[i]? = some u → wr.cell? ((⟨gb, goff, none⟩ : Addr).add i) = some u := fun i u hiu => by
            rw [add_litZ]; exact flatE_cells encI_len G goff q8 i u hiu
          have hfl : (flatE encI G).length = gn * 1 := by rw [flatE_length encI_len, hgn]
          have e1 := flat_snocY hG
          have HE := Lib.hid e1
          have hbd := HLB.out j
          have hml : (GG.take j).flatten.length ≤ 10000 := by rw [flat_lenY]; omega
          have HSRC := Lib.hid hsrc
          have HFL := Lib.hid hfl
          have HGN := Lib.hid hgn
          have HOW := Lib.hid hown
          have HBR := Lib.hid hbr
          have HO1 := Lib.hid (oneE oneEI G)
          obtain ⟨X, hX⟩ : ∃ X, flatE encI G = X := ⟨_, rfl⟩
          rw [hX] at HSRC HFL HO1
          have HX := Lib.hid hX
          have gn100 : gn ≤ 100 := by omega
          clear hG hm hgne hsrc hfl e1 hgn hown hbr q2 q3 q4 q7 q8 hX hg100 hbd
          go_wp2_with (at_builtin; go_must (refine wpList_append_own _ rfl _ _ 22 rfl w.heap.size 3 i1 (.int .i64 0) 1 8 Tryz.underlying22 hi hz0 hz1 hz2 rfl (by decide) _ _ _ rfl HOW.out ⟨gb, goff, none⟩ gn gc X rfl HFL.out HSRC.out HO1.out (by unfold maxLen; omega) (by omega) (by omega) ?_); intro v' w9 hown' hgrow _)
          go_roundw
          case rel => exact ⟨j + 1, by omega, by go_num, by rw [HE.out, flatE_appZ, List.length_append, HGN.out, HX.out]; exact hown', HBR.out.grown hgrow zj (fun q hq => (HOW.out.lt q hq).1)⟩
          case measure => simp [intOf]; omega
        · have hjn : j = n := by omega
          have hf : (GG.take j).flatten = GG.flatten := by rw [List.take_of_length_le (by have := HN.out; omega)]
          rw [hf] at hown
          have HF := Lib.hid (And.intro hown hbr)
          clear hown hbr hf
          go_wp2
          go_ret
          exact ⟨_, rfl, HF.out.1, HF.out.2⟩
def vAwd (x : Awd) : Value := .agg #[.int .i64 x.bd, .int .i64 x.num, .int .i64 x.a, .int .i64 x.p]
/-- the function F, bound to cb, compares two elements with Q wherever block g alone has turned; it may make memory -/
def CmpAwd (F : Nat) (cb : Array Value) (g : Nat) (cf : Awd → Awd → Int) (Q : Awd → Prop) (w : World) : Prop :=
  ∀ W, w.grownBy W (some g) → ∀ x y, Q x → Q y → Calls Tryz.prog F (#[vAwd x, vAwd y] ++ cb) W fun e w' => e = .returned (.int .i64 (cf x y)) ∧ Below W.heap.size W w'
theorem CmpAwd.on {F : Nat} {cb : Array Value} {g : Nat} {cf : Awd → Awd → Int} {Q : Awd → Prop} {w w' : World} (h : CmpAwd F cb g cf Q w) (hg : w.grownBy w' (some g)) : CmpAwd F cb g cf Q w' :=
  fun W hW x y hx hy => h W (ztrans hg hW) x y hx hy
abbrev RowAwd (base g n cap : Nat) (L : List Awd) (w : World) : Prop := RowZ 129 4 encAwd base g n cap L w
set_option maxHeartbeats 8000000 in
set_option maxRecDepth 100000 in
theorem insAwd_any (F : Nat) (cb : Array Value) (cf : Awd → Awd → Int) (Q : Awd → Prop) (base g n cap a b : Nat) (X A Y : List Awd) (w : World)
    (eg : ∀ args w, (callFunc F args).run Tryz.prog w = .ok (.enter F args) w) (hcmp : CmpAwd F cb g cf Q w) (hW : Wk (ltz cf)) (hQ : ∀ x ∈ A, Q x)
    (hrow : RowAwd base g n cap (X ++ A ++ Y) w) (ha : X.length = a) (hb : a + A.length = b) (hn : n ≤ 1000000000) :
    Calls Tryz.prog 299 #[.slice (some ⟨g, 0, none⟩) n cap, .int .i64 a, .int .i64 b, .func (.func F) #[] cb] w fun e w' => e = .returned (.tuple #[]) ∧ RowAwd base g n cap (X ++ srt (ltz cf) A ++ Y) w' ∧ w.grownBy w' (some g) := by
  have hlen : X.length + A.length + Y.length = n := by have := hrow.2; simp at this; omega
  have hbn : b ≤ n := by omega
  have HC := Lib.hid hcmp
  have HQ := Lib.hid hQ
  have HA := Lib.hid ha
  have HB := Lib.hid hb
  have HW := Lib.hid hW
  have HR := Lib.hid hrow
  clear hcmp hQ hW hrow hlen ha
  go_enter Tryz.func299, Tryz.ntmps299
  go_wp2
  go_loopw [8] (fun iv wr => ∃ i : Nat, a + 1 ≤ i ∧ i ≤ b + 1 ∧ iv = .int .i64 i ∧ RowAwd base g n cap (X ++ srt (ltz cf) (A.take (i - a)) ++ (A.drop (i - a) ++ Y)) wr ∧ w.grownBy wr (some g)) (fun iv _ => (b + 1) - (intOf iv).toNat)
  case atStart =>
    refine ⟨a + 1, by omega, by omega, by go_num, ?_, zrefl _ _⟩
    rw [show a + 1 - a = 1 by omega]
    have e : srt (ltz cf) (A.take 1) = A.take 1 := by
      cases A with
      | nil => rfl
      | cons x A => exact srt_one x
    rw [e, ← List.append_assoc, List.append_assoc X, List.take_append_drop]
    exact HR.out
  case round =>
    obtain ⟨i, hi1, hi2, rfl, hr, hg⟩ := hrel
    by_cases hlt : i < b
    · have hltz : (i : Int) < (b : Int) := by omega
      obtain ⟨x, hx⟩ : ∃ x, A[i - a]? = some x := ⟨_, List.getElem?_eq_getElem (by omega)⟩
      have hdrop := drop_cons hx
      have htake := take_snocZ hx
      have hxQ := HQ.out x (List.mem_of_getElem? hx)
      obtain ⟨S, hS⟩ : ∃ S, srt (ltz cf) (A.take (i - a)) = S := ⟨_, rfl⟩
      have hSl : S.length = i - a := by rw [← hS, srt_length, List.length_take]; omega
      have hSa : Asc (ltz cf) S := by rw [← hS]; exact srt_asc HW.out _
      have hSQ : ∀ z ∈ S, Q z := fun z hz => by rw [← hS] at hz; exact HQ.out z (List.mem_of_mem_take ((srt_mem _ _).1 hz))
      have hnext : srt (ltz cf) (A.take (i + 1 - a)) = mrg (ltz cf) S [x] := by rw [show i + 1 - a = i - a + 1 by omega, htake, srt_append HW.out, hS, srt_one]
      have hdrop' : A.drop (i + 1 - a) = A.drop (i - a + 1) := by rw [show i + 1 - a = i - a + 1 by omega]
      rw [hS, hdrop] at hr
      obtain ⟨T, hT⟩ : ∃ T, A.drop (i - a + 1) ++ Y = T := ⟨_, rfl⟩
      have hr' : RowAwd base g n cap (X ++ S ++ x :: T) wr := by rw [← hT]; exact hr
      have hstart : InInz (ltz cf) X S T x i (X ++ S ++ x :: T) := ⟨S, [], by simp, by have := HA.out; omega, by simp, by simp⟩
      have HN := Lib.hid hnext
      have HD := Lib.hid hdrop'
      have HT := Lib.hid hT
      have HS := Lib.hid hSa
      have HSQ := Lib.hid hSQ
      have HR' := Lib.hid hr'
      have HST := Lib.hid hstart
      have HG := Lib.hid hg
      have HXQ := Lib.hid hxQ
      clear hx hdrop htake hS hSl hSa hSQ hnext hdrop' hr hT hr' hstart hg hxQ
      go_wp2
      go_loopw [9] (fun jv wr => ∃ (j : Nat) (D : List Awd), a ≤ j ∧ j ≤ i ∧ jv = .int .i64 j ∧ InInz (ltz cf) X S T x j D ∧ RowAwd base g n cap D wr ∧ w.grownBy wr (some g)) (fun jv _ => (intOf jv).toNat)
      case atStart => exact ⟨i, _, by omega, by omega, rfl, HST.out, HR'.out, HG.out⟩
      case round =>
        obtain ⟨j, D, hj1, hj2, rfl, hI, hrow, hgr⟩ := hrel
        have done : (j = a ∨ ∃ y, D[j - 1]? = some y ∧ ltz cf x y = false) → D = X ++ srt (ltz cf) (A.take (i + 1 - a)) ++ (A.drop (i + 1 - a) ++ Y) := fun h => by
          rw [HN.out, HD.out, HT.out]
          exact hI.out HW.out HS.out (h.imp (fun h => by rw [HA.out]; exact h) id)
        have DONE := Lib.hid done
        clear done
        by_cases hja : a < j
        · obtain ⟨P, y, R, hD, hP, hstep⟩ := hI.step (by rw [HA.out]; exact hja)
          have hyQ : Q y := hI.mem HSQ.out (by rw [HA.out]; exact hja) (y := y) (by rw [hD, show j - 1 = P.length by omega]; exact (zget_pair P R y x).1)
          have hy1 : D[j - 1]? = some y := by rw [hD, show j - 1 = P.length by omega]; exact (zget_pair P R y x).1
          obtain ⟨jp, hjp⟩ : ∃ jp, jp = P.length := ⟨_, rfl⟩
          rw [← hjp] at hP hstep
          obtain rfl : j = jp + 1 := by omega
          have HDD := Lib.hid hD
          rw [hD] at hrow
          obtain ⟨x0, x1, x2, x3⟩ := x
          obtain ⟨y0, y1, y2, y3⟩ := y
          have hcp := (zget_pair P R (⟨y0, y1, y2, y3⟩ : Awd) ⟨x0, x1, x2, x3⟩).1
          have hcj := (zget_pair P R (⟨y0, y1, y2, y3⟩ : Awd) ⟨x0, x1, x2, x3⟩).2
          rw [← hjp] at hcp hcj
          obtain ⟨j1, hj1e⟩ : ∃ j1, j1 = jp + 1 := ⟨_, rfl⟩
          rw [← hj1e] at hcj
          have cp0 := hrow.cell encAwd_len (i := 0) hcp rfl; have cp1 := hrow.cell encAwd_len (i := 1) hcp rfl; have cp2 := hrow.cell encAwd_len (i := 2) hcp rfl; have cp3 := hrow.cell encAwd_len (i := 3) hcp rfl
          have cj0 := hrow.cell encAwd_len (i := 0) hcj rfl; have cj1 := hrow.cell encAwd_len (i := 1) hcj rfl; have cj2 := hrow.cell encAwd_len (i := 2) hcj rfl; have cj3 := hrow.cell encAwd_len (i := 3) hcj rfl
          simp only [Nat.add_zero] at cp0 cj0
          have fr := fun o => hrow.fro o
          have FR := Lib.hid fr
          have jz : (j1 : Int) < (n : Int) := by omega
          have jz1 : (jp : Int) < (n : Int) := by omega
          have p0 : (0 : Int) ≤ (j1 : Int) := by omega
          have hjaz : decide (a < j1) = true := by simp; omega
          have hj1i : j1 ≤ i := by omega
          have haj1 : a ≤ jp := by omega
          have hjaz2 : a < j1 := by omega
          have hw0 : (j1 : Int) - 1 = (jp : Int) := by omega
          have ejj : ((jp + 1 : Nat) : Int) = (j1 : Int) := by omega
          have hc := fun W (hW : Below wr.heap.size wr W) => HC.out W (ztrans hgr (zbelow hW _)) ⟨x0, x1, x2, x3⟩ ⟨y0, y1, y2, y3⟩ HXQ.out hyQ
          obtain ⟨c, hcf⟩ : ∃ c, cf ⟨x0, x1, x2, x3⟩ ⟨y0, y1, y2, y3⟩ = c := ⟨_, rfl⟩
          simp only [hcf, vAwd] at hc
          have HCC := Lib.hid hc
          have HCF := Lib.hid hcf
          have HI := Lib.hid hI
          have HJP := Lib.hid hjp
          have HJ1 := Lib.hid hj1e
          have HP := Lib.hid hP
          have HST2 := Lib.hid hstep
          have HROW := Lib.hid hrow
          have HGR := Lib.hid hgr
          have HY1 := Lib.hid hy1
          clear hcf hI hjp hstep hD hrow hgr hyQ hy1 hP hcp hcj hc fr hj1e
          have cp0u := up_cell cp0; have cp1u := up_cell cp1; have cp2u := up_cell cp2; have cp3u := up_cell cp3; have cj0u := up_cell cj0; have cj1u := up_cell cj1; have cj2u := up_cell cj2; have cj3u := up_cell cj3
          rw [ejj]
          clear ejj hj1 hj2 hja
          by_cases hneg : c < 0
          · have hlt1 : ltz cf ⟨x0, x1, x2, x3⟩ ⟨y0, y1, y2, y3⟩ = true := by unfold ltz; rw [HCF.out]; exact decide_eq_true hneg
            have HL1 := Lib.hid hlt1
            clear hlt1
            go_upto_region 4 with fail
            (refine wp_region_up (by kernel_rfl) (by kernel_rfl) ?_); (repeat (go_big_quiet_step (((go_at_fn F; refine (HCC.out _ (Subtype.property _)).mono ?_; exact fun _ _ hh => ⟨hh.1, ⟨_, bup (Subtype.property _) hh.2⟩, rfl⟩))))); (refine wpQuiet_nil ?_); (rintro w2 ⟨⟨_, hb2⟩, rfl⟩)
            have HROW2 := Lib.hid (HROW.out.below hb2)
            have HGR2 := Lib.hid (ztrans HGR.out (zbelow hb2 _))
            have cp0 := keepB hb2 cp0; have cj0 := keepB hb2 cj0; have cp1 := keepB hb2 cp1; have cj1 := keepB hb2 cj1; have cp2 := keepB hb2 cp2; have cj2 := keepB hb2 cj2; have cp3 := keepB hb2 cp3; have cj3 := keepB hb2 cj3
            have fr := fun o => HROW2.out.fro o
            clear cp0u cp1u cp2u cp3u cj0u cj1u cj2u cj3u HROW HGR hb2
            go_wp2_with fail
            go_region
            all_goals go_wp2
            go_roundw
            case rel =>
              have hx := HROW2.out.nbr encAwd_len 1 HJP.out.symm HJ1.out
              exact ⟨jp, _, by omega, by omega, by first | rfl | go_num | (congr 1; omega), HST2.out HL1.out, hx.1, ztrans HGR2.out hx.2⟩
            case measure => simp [intOf]; have := HJ1.out; omega
          · have hlt1 : ltz cf ⟨x0, x1, x2, x3⟩ ⟨y0, y1, y2, y3⟩ = false := by unfold ltz; rw [HCF.out]; exact decide_eq_false hneg
            have hfin := DONE.out (.inr ⟨⟨y0, y1, y2, y3⟩, HY1.out, hlt1⟩)
            have HF := Lib.hid hfin
            clear hlt1 hfin
            go_upto_region 4 with fail
            (refine wp_region_up (by kernel_rfl) (by kernel_rfl) ?_); (repeat (go_big_quiet_step (((go_at_fn F; refine (HCC.out _ (Subtype.property _)).mono ?_; exact fun _ _ hh => ⟨hh.1, ⟨_, bup (Subtype.property _) hh.2⟩, rfl⟩))))); (refine wpQuiet_nil ?_); (rintro w2 ⟨⟨_, hb2⟩, rfl⟩)
            go_wp2
            go_roundw
            case rel => exact ⟨i + 1, by omega, by omega, by go_num, by rw [← HF.out, HDD.out]; exact HROW.out.below hb2, ztrans HGR.out (zbelow hb2 _)⟩
            case measure => simp [intOf]; omega
        · obtain rfl : j = a := by omega
          have HF := Lib.hid (DONE.out (.inl rfl))
          have HROW := Lib.hid hrow
          have HGR := Lib.hid hgr
          clear DONE hI hrow hgr hja
          have hd : decide ((j : Int) < (j : Int)) = false := by simp
          go_wp2_with fail
          go_quiet (fail)
          go_wp2
          go_roundw
          case rel => exact ⟨i + 1, by omega, by omega, by go_num, by rw [← HF.out]; exact HROW.out.drewN nq, ztrans HGR.out ⟨rfl, rfl, rfl, Nat.le_refl _, fun _ _ _ => rfl⟩⟩
          case measure => simp [intOf]; omega
    · have hd : ¬ (i : Int) < (b : Int) := by omega
      have hfin : X ++ srt (ltz cf) (A.take (i - a)) ++ (A.drop (i - a) ++ Y) = X ++ srt (ltz cf) A ++ Y := by
        rw [List.take_of_length_le (by have := HB.out; omega), List.drop_of_length_le (by have := HB.out; omega), List.nil_append]
      rw [hfin] at hr
      have HR2 := Lib.hid hr
      have HG2 := Lib.hid hg
      clear hfin hr hg
      go_wp2
      go_end0
      exact ⟨rfl, by simpa using HR2.out, HG2.out⟩
set_option maxRecDepth 100000 in
theorem len64_any (n : Nat) (h : n ≤ 12) (w : World) : Calls Tryz.prog 308 #[.int .u64 (n : Int)] w fun e w' => (∃ z : Int, e = .returned (.int .i64 z)) ∧ w' = w := by
  have h12 : n = 0 ∨ n = 1 ∨ n = 2 ∨ n = 3 ∨ n = 4 ∨ n = 5 ∨ n = 6 ∨ n = 7 ∨ n = 8 ∨ n = 9 ∨ n = 10 ∨ n = 11 ∨ n = 12 := by omega
  rcases h12 with rfl | rfl | rfl | rfl | rfl | rfl | rfl | rfl | rfl | rfl | rfl | rfl | rfl
  all_goals
    go_enter Tryz.func308, Tryz.ntmps308
    go_wp2
    go_ret
    exact ⟨⟨_, rfl⟩, rfl⟩
theorem len_any (n : Nat) (h : n ≤ 12) (w : World) : Calls Tryz.prog 268 #[.int .u64 (n : Int)] w fun e w' => (∃ z : Int, e = .returned (.int .i64 z)) ∧ w' = w := by
  have K := Lib.hid (fun U => len64_any n h U)
  go_enter Tryz.func268, Tryz.ntmps268
  go_wp2_with fail
  refine (K.out _).mono ?_
  rintro e w1 ⟨⟨z, rfl⟩, rfl⟩
  go_wp2
  go_ret
  exact ⟨⟨_, rfl⟩, rfl⟩
theorem insW_nil (fv : Value) (w : World) : Calls Tryz.prog 299 #[.slice none 0 0, .int .i64 0, .int .i64 0, fv] w fun e w' => e = .returned (.tuple #[]) ∧ w' = w := by
  go_enter Tryz.func299, Tryz.ntmps299
  go_wp2
  refine wp_loop_rounds 1 ?_
  rw [rounds_succ]
  go_wp2
  go_end0
  exact ⟨rfl, rfl⟩
theorem pdqW_nil (fv : Value) (z : Int) (w : World) : Calls Tryz.prog 267 #[.slice none 0 0, .int .i64 0, .int .i64 0, .int .i64 z, fv] w fun e w' => e = .returned (.tuple #[]) ∧ w' = w := by
  go_enter Tryz.func267, Tryz.ntmps267
  go_wp2
  refine wp_loop_rounds 1 ?_
  rw [rounds_succ]
  go_wp2_with fail
  refine (insW_nil _ _).mono ?_
  rintro e w1 ⟨rfl, rfl⟩
  go_wp2
  refine bodyPost_ret (results_none rfl _ _ _) rfl ?_
  exact ⟨rfl, rfl⟩
theorem pdqW_any (F : Nat) (cb : Array Value) (cf : Awd → Awd → Int) (Q : Awd → Prop) (base g n cap : Nat) (L : List Awd) (z : Int) (w : World)
    (eg : ∀ args w, (callFunc F args).run Tryz.prog w = .ok (.enter F args) w) (hcmp : CmpAwd F cb g cf Q w) (hW : Wk (ltz cf)) (hQ : ∀ x ∈ L, Q x)
    (hrow : RowAwd base g n cap L w) (hn : n ≤ 12) :
    Calls Tryz.prog 267 #[.slice (some ⟨g, 0, none⟩) n cap, .int .i64 0, .int .i64 n, .int .i64 z, .func (.func F) #[] cb] w fun e w' => e = .returned (.tuple #[]) ∧ RowAwd base g n cap (srt (ltz cf) L) w' ∧ w.grownBy w' (some g) := by
  have K := insAwd_any F cb cf Q base g n cap 0 n [] L [] w eg hcmp hW hQ (by simpa using hrow) rfl (by have := hrow.2; omega) (by omega)
  simp only [List.nil_append, List.append_nil] at K
  have HK := Lib.hid K
  have hnz : (n : Int) ≤ 12 := by omega
  clear K hcmp hrow hQ hW eg
  go_enter Tryz.func267, Tryz.ntmps267
  go_wp2
  refine wp_loop_rounds 1 ?_
  rw [rounds_succ]
  go_wp2_with fail
  refine HK.out.mono ?_
  rintro e w1 ⟨rfl, hr, hg⟩
  have HR := Lib.hid (And.intro hr hg)
  clear hr hg
  go_wp2
  refine bodyPost_ret (results_none rfl _ _ _) rfl ?_
  exact ⟨rfl, HR.out.1, HR.out.2⟩
/-- any row of one's own of at most twelve numbers is sorted in place -/
theorem sortW_own (F : Nat) (cb : Array Value) (cf : Awd → Awd → Int) (Q : Awd → Prop) (base : Nat) (v : Value) (L : List Awd) (w : World)
    (eg : ∀ args w, (callFunc F args).run Tryz.prog w = .ok (.enter F args) w) (hcmp : ∀ W x y, Q x → Q y → Calls Tryz.prog F (#[vAwd x, vAwd y] ++ cb) W fun e w' => e = .returned (.int .i64 (cf x y)) ∧ Below W.heap.size W w') (hW : Wk (ltz cf)) (hQ : ∀ x ∈ L, Q x)
    (hown : w.ownsRow base 129 4 v L.length (flatE encAwd L)) (hn : L.length ≤ 12) :
    Calls Tryz.prog 210 #[v, .func (.func F) #[] cb] w fun e w' => e = .returned (.tuple #[]) ∧ w'.ownsRow base 129 4 v L.length (flatE encAwd (srt (ltz cf) L)) ∧ w.grownBy w' v.ownBlock := by
  have KL := Lib.hid (fun U => len_any L.length hn U)
  rcases hown.2 with ⟨rfl, h0⟩ | ⟨g, cap, cur, rfl, hbg, hg, -⟩
  · have hL : L = [] := List.eq_nil_of_length_eq_zero h0
    subst hL
    go_enter Tryz.func210, Tryz.ntmps210
    go_wp2_with fail
    refine (len_any 0 (by omega) _).mono ?_
    rintro e w1 ⟨⟨z, rfl⟩, rfl⟩
    go_wp2_with fail
    refine (pdqW_nil _ _ _).mono ?_
    rintro e w2 ⟨rfl, rfl⟩
    go_wp2
    go_end0
    exact ⟨rfl, hown, ⟨rfl, rfl, rfl, Nat.le_refl _, fun _ _ _ => rfl⟩⟩
  · obtain ⟨n, hnn⟩ : ∃ n, L.length = n := ⟨_, rfl⟩
    have KP := Lib.hid (fun z => pdqW_any F cb cf Q base g n cap L z w eg (fun W _ x y hx hy => hcmp W x y hx hy) hW hQ ⟨by rw [← hnn]; exact hown, hnn⟩ (by omega))
    rw [hnn] at KL hn ⊢
    have HN := Lib.hid hnn
    clear hcmp hown hg hQ hW eg hnn
    go_enter Tryz.func210, Tryz.ntmps210
    go_wp2_with fail
    refine (KL.out _).mono ?_
    rintro e w1 ⟨⟨z, rfl⟩, rfl⟩
    go_wp2_with fail
    refine (KP.out z).mono ?_
    rintro e w2 ⟨rfl, hr, hg2⟩
    have HR := Lib.hid (And.intro hr hg2)
    clear hr hg2
    go_wp2
    go_end0
    exact ⟨rfl, HR.out.1.1, HR.out.2⟩
theorem sumI_set {L : List Int} {i : Nat} {y : Int} (h : i < L.length) : sumI (L.set i y) = sumI L + y - L.getD i 0 := by
  induction L generalizing i with
  | nil => simp at h
  | cons x L ih =>
    cases i with
    | zero => simp [sumI]; omega
    | succ i =>
      have := ih (i := i) (by simpa using h)
      simp only [List.set_cons_succ, sumI, this, List.getD_cons_succ]; omega
theorem sumI_bump : ∀ (L I : List Int), (∀ x ∈ I, 0 ≤ x ∧ x < L.length) → sumI (bump L I) = sumI L + I.length
  | L, [], _ => by simp [bump]
  | L, i :: I, h => by
    have hi := h i (List.mem_cons_self ..)
    rw [bump, sumI_bump _ I (fun x hx => by rw [List.length_set]; exact h x (List.mem_cons_of_mem _ hx)), sumI_set (by omega)]
    simp only [List.length_cons]; omega
theorem bump_far : ∀ (L I : List Int) (k : Nat), (∀ x ∈ I, 0 ≤ x ∧ x ≠ k) → (bump L I)[k]? = L[k]?
  | L, [], _, _ => rfl
  | L, i :: I, k, h => by
    have hi := h i (List.mem_cons_self ..)
    rw [bump, bump_far _ I k (fun x hx => h x (List.mem_cons_of_mem _ hx)), List.getElem?_set_ne (by omega)]
theorem bump_at : ∀ (L I : List Int) (k : Nat) (z : Int), I.Nodup → (∀ x ∈ I, 0 ≤ x) → (k : Int) ∈ I → L[k]? = some z → (bump L I)[k]? = some (z + 1)
  | L, [], k, z, _, _, h, _ => by simp at h
  | L, i :: I, k, z, hn, h0, h, hz => by
    rw [List.nodup_cons] at hn
    rw [bump]
    by_cases hik : i = k
    · subst hik
      have hk : k < L.length := (List.getElem?_eq_some_iff.1 hz).1
      rw [bump_far _ I k (fun x hx => ⟨h0 x (List.mem_cons_of_mem _ hx), fun e => hn.1 (e ▸ hx)⟩)]
      rw [show ((k : Int)).toNat = k by omega, List.getElem?_set_self hk, List.getD_eq_getElem?_getD, hz]; rfl
    · have hm : (k : Int) ∈ I := by
        rcases List.mem_cons.1 h with h | h
        · exact absurd h.symm hik
        · exact h
      have hi0 := h0 i (List.mem_cons_self ..)
      exact bump_at _ I k z hn.2 (fun x hx => h0 x (List.mem_cons_of_mem _ hx)) hm (by rw [List.getElem?_set_ne (by omega)]; exact hz)
theorem idxs_nodup (n : Nat) : (idxs n).Nodup := by
  unfold idxs
  refine List.Pairwise.map _ ?_ List.nodup_range
  intro a b h; omega
theorem ordP_nodup (t s : Int) (W : List Int) : (ordP t s W).Nodup := (srt_perm _).nodup_iff.2 (idxs_nodup _)
theorem ordP_mem2 {t s : Int} {W : List Int} {k : Nat} (h : k < W.length) : (k : Int) ∈ ordP t s W := (srt_mem _ _).2 (by simp only [idxs, List.mem_map, List.mem_range]; exact ⟨k, h, rfl⟩)
theorem ordP_split {t s : Int} {W : List Int} (m : Nat) {x y : Int} (hx : x ∈ (ordP t s W).take m) (hy : y ∈ (ordP t s W).drop m) : rAt t s W y ≤ rAt t s W x := by
  have h := srt_asc (cfP_wk t s W) (idxs W.length)
  have e : srt (ltc (cfP t s W)) (idxs W.length) = (ordP t s W).take m ++ (ordP t s W).drop m := (List.take_append_drop m _).symm
  rw [e, asc_append] at h
  have h3 : ¬ cfP t s W y x < 0 := by simpa [ltc] using h.2.2 x hx y hy
  rcases Int.lt_or_le (rAt t s W x) (rAt t s W y) with h | h
  · exact absurd (show cfP t s W y x < 0 by unfold cfP cmpIY; rw [if_pos h]; omega) h3
  · exact h
theorem sumI_perm {A B : List Int} (h : A.Perm B) : sumI A = sumI B := by
  induction h with
  | nil => rfl
  | cons x _ ih => simp only [sumI, ih]
  | swap x y l => simp only [sumI]; omega
  | trans _ _ ih1 ih2 => rw [ih1, ih2]
theorem rAt_get {t s : Int} {W : List Int} {k : Nat} {v : Int} (h : W[k]? = some v) : rAt t s W k = t * v % s := by simp [rAt, rstP, List.getD_eq_getElem?_getD, h]
theorem rAt_bd {t s : Int} {W : List Int} (hs : 0 < s) (k : Int) : 0 ≤ rAt t s W k ∧ rAt t s W k ≤ s - 1 := by
  unfold rAt
  rw [List.getD_eq_getElem?_getD]
  cases h : (rstP t s W)[k.toNat]? with
  | none => simp; omega
  | some v =>
    simp only [rstP, List.getElem?_map, Option.map_eq_some_iff] at h
    obtain ⟨a, _, rfl⟩ := h
    have h1 := Int.emod_nonneg (t * a) (show s ≠ 0 by omega)
    have h2 := Int.emod_lt_of_pos (t * a) hs
    simp; omega
theorem map_rAt (t s : Int) (W : List Int) : (idxs W.length).map (rAt t s W) = rstP t s W := by
  refine List.ext_getElem? fun k => ?_
  by_cases h : k < W.length
  · simp [idxs, rAt, rstP, h]
  · rw [List.getElem?_eq_none (by simp [idxs]; omega), List.getElem?_eq_none (by simp [rstP]; omega)]
theorem sum_ord (t s : Int) (W : List Int) : sumI ((ordP t s W).map (rAt t s W)) = sumI (rstP t s W) := by
  rw [← map_rAt]
  exact sumI_perm ((srt_perm _).map _)
theorem sum_le_of {L : List Int} {f : Int → Int} {B : Int} (h : ∀ x ∈ L, f x ≤ B) : sumI (L.map f) ≤ L.length * B := by
  have := sumI_le (L := L.map f) (B := B) (fun x hx => by obtain ⟨y, hy, rfl⟩ := List.mem_map.1 hx; exact h y hy)
  rwa [List.length_map] at this
/-- no rest, no more -/
theorem rest_zero_s {t s : Int} {W : List Int} (h0 : 0 ≤ t) (hs : 0 < s) (hS : sumI W = s) {k : Int} (hr : rAt t s W k = 0) : k ∉ (ordP t s W).take (leftP t s W).toNat := by
  intro hk
  have hl := left_bd (t := t) (W := W) h0 (by omega)
  have e := sum_split t s W
  have eo := sum_ord t s W
  rw [hS] at hl e
  obtain ⟨m, hm⟩ := Int.eq_ofNat_of_zero_le hl.1
  rw [hm] at hk hl
  have hmt : ((m : Int)).toNat = m := by omega
  rw [hmt] at hk
  have hO : ordP t s W = (ordP t s W).take m ++ (ordP t s W).drop m := (List.take_append_drop m _).symm
  have hD : sumI (((ordP t s W).drop m).map (rAt t s W)) ≤ ((ordP t s W).drop m).length * 0 := sum_le_of fun y hy => by have := ordP_split m hk hy; omega
  obtain ⟨A, B, hAB⟩ := List.append_of_mem hk
  have hT : sumI (((ordP t s W).take m).map (rAt t s W)) ≤ ((A ++ B).length : Int) * (s - 1) := by
    rw [hAB, List.map_append, List.map_cons, sumI_append, sumI, hr]
    have h1 := sum_le_of (L := A) (f := rAt t s W) (B := s - 1) fun x _ => (rAt_bd hs x).2
    have h2 := sum_le_of (L := B) (f := rAt t s W) (B := s - 1) fun x _ => (rAt_bd hs x).2
    rw [List.length_append, show ((A.length + B.length : Nat) : Int) = A.length + B.length by omega, Int.add_mul]
    omega
  have hlen : (A ++ B).length + 1 ≤ m := by
    have : ((ordP t s W).take m).length ≤ m := by rw [List.length_take]; omega
    rw [hAB] at this
    simp only [List.length_append, List.length_cons] at this ⊢
    omega
  rw [hO, List.map_append, sumI_append] at eo
  have hleft : s * (m : Int) = sumI (rstP t s W) := by
    have : leftP t s W = m := hm
    unfold leftP at this
    rw [← this, Int.mul_sub, Int.mul_comm s t]; omega
  have h3 : ((A ++ B).length : Int) * (s - 1) ≤ ((m : Int) - 1) * (s - 1) := Int.mul_le_mul_of_nonneg_right (by omega) (by omega)
  have e5 : ((m : Int) - 1) * (s - 1) = s * m - m - (s - 1) := by rw [Int.sub_mul, Int.one_mul, Int.mul_sub, Int.mul_one, Int.mul_comm (m : Int) s]
  rw [e5] at h3
  omega
theorem rest_zero {t : Int} {W : List Int} (h0 : 0 ≤ t) (hs : 0 < sumI W) {k : Int} (hr : rAt t (sumI W) W k = 0) : k ∉ (ordP t (sumI W) W).take (leftP t (sumI W) W).toNat := rest_zero_s h0 hs rfl hr
theorem parts_len (t s : Int) (W : List Int) : (partsR t s W).length = W.length := by rw [partsR, bump_length]; simp [baseP]
theorem parts_get {t s : Int} {W : List Int} {k : Nat} {v : Int} (h : W[k]? = some v) :
    (partsR t s W)[k]? = some (t * v / s + if (k : Int) ∈ (ordP t s W).take (leftP t s W).toNat then 1 else 0) := by
  have hb : (baseP t s W)[k]? = some (t * v / s) := by simp [baseP, h]
  have hm : ∀ x ∈ (ordP t s W).take (leftP t s W).toNat, 0 ≤ x := fun x hx => (ordP_mem (List.mem_of_mem_take hx)).1
  unfold partsR
  split
  · rename_i hk
    exact bump_at _ _ k _ ((ordP_nodup t s W).sublist (List.take_sublist _ _)) hm hk hb
  · rename_i hk
    rw [bump_far _ _ k fun x hx => ⟨hm x hx, fun e => hk (e ▸ hx)⟩, hb]; simp
structure PartsFair (t : Int) (W p : List Int) : Prop where
  len : p.length = W.length
  get : ∀ (k : Nat) (v : Int), W[k]? = some v → ∃ x, p[k]? = some x ∧ t * v / sumI W ≤ x ∧ x ≤ t * v / sumI W + 1 ∧ (t * v % sumI W = 0 → x = t * v / sumI W) ∧ (v = 0 → x = 0)
  pair : ∀ (i k : Nat) (v u x y : Int), W[i]? = some v → W[k]? = some u → p[i]? = some x → p[k]? = some y → u < v → y ≤ x
  sum : sumI p = t
theorem PartsFair.nonneg {t : Int} {W p : List Int} (h : PartsFair t W p) (h0 : 0 ≤ t) (hs : 0 < sumI W) (hw : ∀ w ∈ W, 0 ≤ w) : ∀ x ∈ p, 0 ≤ x := by
  intro x hx
  obtain ⟨i, hi, rfl⟩ := List.getElem_of_mem hx
  obtain ⟨v, hv⟩ : ∃ v, W[i]? = some v := ⟨_, List.getElem?_eq_getElem (by have := h.len; omega)⟩
  obtain ⟨y, hy, h1, _⟩ := h.get i v hv
  rw [List.getElem?_eq_getElem hi] at hy
  cases hy
  have := Int.ediv_nonneg (Int.mul_nonneg h0 (hw v (List.mem_of_getElem? hv))) (show 0 ≤ sumI W by omega)
  omega
theorem PartsFair.take {t : Int} {W p : List Int} (h : PartsFair t W p) (h0 : 0 ≤ t) (hs : 0 < sumI W) (hw : ∀ w ∈ W, 0 ≤ w) (k : Nat) : 0 ≤ sumI (p.take k) ∧ sumI (p.take k) ≤ t := by
  have hn := h.nonneg h0 hs hw
  have e : sumI (p.take k) + sumI (p.drop k) = t := by rw [← sumI_append, List.take_append_drop]; exact h.sum
  have h1 := sumI_nonneg (L := p.take k) (fun x hx => hn x (List.mem_of_mem_take hx))
  have h2 := sumI_nonneg (L := p.drop k) (fun x hx => hn x (List.mem_of_mem_drop hx))
  omega
theorem parts_fair {t : Int} {W : List Int} (h0 : 0 ≤ t) (hs : 0 < sumI W) (hw : ∀ w ∈ W, 0 ≤ w) : PartsFair t W (partsR t (sumI W) W) := by
  refine ⟨parts_len _ _ _, fun k v hv => ?_, fun i k v u x y hv hu hx hy huv => ?_, ?_⟩
  · refine ⟨_, parts_get hv, ?_⟩
    have hz : t * v % sumI W = 0 → (k : Int) ∉ (ordP t (sumI W) W).take (leftP t (sumI W) W).toNat := fun h => rest_zero h0 hs (by rw [rAt_get hv]; exact h)
    refine ⟨by split <;> omega, by split <;> omega, fun h => by rw [if_neg (hz h)]; omega, fun h => ?_⟩
    subst h
    rw [if_neg (hz (by simp))]; simp
  · rw [parts_get hv] at hx
    rw [parts_get hu] at hy
    cases hx; cases hy
    have hm : t * u ≤ t * v := Int.mul_le_mul_of_nonneg_left (by omega) h0
    have hd := Int.ediv_le_ediv hs hm
    have e1 := Int.mul_ediv_add_emod (t * u) (sumI W)
    have e2 := Int.mul_ediv_add_emod (t * v) (sumI W)
    rcases Int.lt_or_le (t * u / sumI W) (t * v / sumI W) with h | h
    · split <;> split <;> omega
    · have he : t * u / sumI W = t * v / sumI W := by omega
      rw [he] at e1 ⊢
      split
      · rename_i hk
        rw [if_pos]
        · omega
        · rcases Int.lt_or_le (t * u % sumI W) (t * v % sumI W) with hr | hr
          · have := ordP_mem2 (t := t) (s := sumI W) (List.getElem?_eq_some_iff.1 hv).1
            rw [← List.take_append_drop (leftP t (sumI W) W).toNat (ordP t (sumI W) W), List.mem_append] at this
            rcases this with h | h
            · exact h
            · have := ordP_split _ hk h
              rw [rAt_get hv, rAt_get hu] at this; omega
          · -- equal products
            have heq : t * u = t * v := by omega
            have ht : t = 0 := by
              rcases Int.lt_or_le 0 t with h | h
              · have := Int.mul_lt_mul_of_pos_left huv h; omega
              · omega
            exfalso
            refine rest_zero h0 hs (k := k) ?_ hk
            rw [rAt_get hu, ht]; simp
      · split <;> omega
  · rw [partsR, sumI_bump _ _ fun x hx => by have := ordP_mem (List.mem_of_mem_take hx); simpa [baseP] using this]
    have hl := left_bd (t := t) (W := W) h0 hs
    rw [List.length_take, ordP_length]
    unfold leftP at hl ⊢
    omega
/-- a number more in the last row -/
def addLast (R : List (List Int)) (v : Int) : List (List Int) := match R.getLast? with
  | some r => R.dropLast ++ [r ++ [v]]
  | none => R
theorem addLast_snoc (R : List (List Int)) (r : List Int) (v : Int) : addLast (R ++ [r]) v = R ++ [r ++ [v]] := by simp [addLast]
/-- a new rank begins with the element k -/
def newB (P : List Tdr) (k : Nat) : Bool := match P[k]?, P[k - 1]? with
  | some x, some y => k == 0 || !(y.p == x.p)
  | _, _ => true
/-- the ranks of the first k tenders -/
def rkT (P : List Tdr) : Nat → List (List Int)
  | 0 => []
  | k + 1 => match P[k]? with
    | some x => if newB P k then rkT P k ++ [[x.a / 1000]] else addLast (rkT P k) (x.a / 1000)
    | none => rkT P k
theorem rkT_new {P : List Tdr} {k : Nat} {x : Tdr} (h : P[k]? = some x) (hn : newB P k = true) : rkT P (k + 1) = rkT P k ++ [[x.a / 1000]] := by rw [rkT, h]; simp only; rw [if_pos hn]
theorem rkT_old {P : List Tdr} {k : Nat} {x : Tdr} (h : P[k]? = some x) (hn : newB P k = false) : rkT P (k + 1) = addLast (rkT P k) (x.a / 1000) := by rw [rkT, h]; simp only; rw [if_neg (by rw [hn]; decide)]
theorem newB_zero (P : List Tdr) : newB P 0 = true := by
  unfold newB
  cases P[0]? <;> simp
theorem rkT_ne {P : List Tdr} : ∀ {k : Nat}, 0 < k → k ≤ P.length → rkT P k ≠ []
  | 0, h, _ => by omega
  | k + 1, _, hk => by
    obtain ⟨x, hx⟩ : ∃ x, P[k]? = some x := ⟨_, List.getElem?_eq_getElem (by omega)⟩
    cases hn : newB P k with
    | true => rw [rkT_new hx hn]; simp
    | false =>
      rw [rkT_old hx hn]
      have h0 : 0 < k := by
        rcases Nat.eq_zero_or_pos k with h | h
        · subst h; rw [newB_zero] at hn; cases hn
        · exact h
      have := rkT_ne (P := P) h0 (by omega)
      obtain ⟨R, r, e⟩ : ∃ R r, rkT P k = R ++ [r] := ⟨_, _, (List.dropLast_concat_getLast this).symm⟩
      rw [e, addLast_snoc]; simp
/-- what the ranks are -/
structure RkS (P : List Tdr) (k : Nat) (R : List (List Int)) : Prop where
  n : R.length ≤ k
  l : ∀ r ∈ R, r.length ≤ k
  ne : ∀ r ∈ R, r ≠ []
  f : R.flatten = (P.take k).map fun x => x.a / 1000
theorem rkT_ok {P : List Tdr} : ∀ k, k ≤ P.length → RkS P k (rkT P k)
  | 0, _ => ⟨by simp [rkT], fun r h => by simp [rkT] at h, fun r h => by simp [rkT] at h, by simp [rkT]⟩
  | k + 1, hk => by
    obtain ⟨i1, i2, i3, i4⟩ := rkT_ok (P := P) k (by omega)
    obtain ⟨x, hx⟩ : ∃ x, P[k]? = some x := ⟨_, List.getElem?_eq_getElem (by omega)⟩
    cases hn : newB P k with
    | true =>
      rw [rkT_new hx hn]
      refine ⟨by simp; omega, fun r h => ?_, fun r h => ?_, by rw [List.flatten_append, i4, take_snocZ hx]; simp⟩
      · rw [List.mem_append] at h
        rcases h with h | h
        · have := i2 r h; omega
        · simp only [List.mem_singleton] at h; subst h; simp
      · rw [List.mem_append] at h
        rcases h with h | h
        · exact i3 r h
        · simp only [List.mem_singleton] at h; subst h; simp
    | false =>
      rw [rkT_old hx hn]
      have h0 : 0 < k := by
        rcases Nat.eq_zero_or_pos k with h | h
        · subst h; rw [newB_zero] at hn; cases hn
        · exact h
      have hne := rkT_ne h0 (show k ≤ P.length by omega)
      obtain ⟨R, r, e⟩ : ∃ R r, rkT P k = R ++ [r] := ⟨_, _, (List.dropLast_concat_getLast hne).symm⟩
      rw [e] at i1 i2 i3 i4
      rw [e, addLast_snoc]
      refine ⟨by simp at i1 ⊢; omega, fun q h => ?_, fun q h => ?_, ?_⟩
      · rw [List.mem_append] at h
        rcases h with h | h
        · have := i2 q (by simp [h]); omega
        · simp only [List.mem_singleton] at h; subst h
          have := i2 r (by simp)
          simp; omega
      · rw [List.mem_append] at h
        rcases h with h | h
        · exact i3 q (by simp [h])
        · simp only [List.mem_singleton] at h; subst h; simp
      · rw [take_snocZ hx, List.map_append, ← i4]; simp
theorem rkT_ranks {P : List Tdr} (hP : ∀ x ∈ P, 1000 ≤ x.a ∧ x.a ≤ 1000000000) (hl : P.length ≤ 60) : RanksOk (rkT P P.length) := by
  obtain ⟨i1, i2, i3, i4⟩ := rkT_ok (P := P) P.length (Nat.le_refl _)
  refine ⟨by omega, fun r h => by have := i2 r h; omega, fun r h x hx => ?_⟩
  have : x ∈ (rkT P P.length).flatten := List.mem_flatten.2 ⟨r, h, hx⟩
  rw [i4, List.take_length] at this
  obtain ⟨y, hy, rfl⟩ := List.mem_map.1 this
  have := hP y hy
  omega
/-! what is served -/
theorem parts_okB {left : Int} {r : List Int} (h0 : 0 ≤ left) (h1 : left ≤ 1000000) (hl : r.length ≤ 100) (hb : ∀ x ∈ r, 0 ≤ x ∧ x ≤ 1000000) (hlt : left < sumI r) : PartsFair left r (partsL left r) := by
  have hpe : partsE left r = 0 := by
    unfold partsE
    rw [inB_iff.2 ⟨h0, by omega⟩, if_pos rfl, if_neg (by
      rw [Bool.not_eq_true, List.any_eq_false]
      intro x hx
      obtain ⟨x0, x1⟩ := hb x hx
      unfold wgB
      rw [inB_iff.2 ⟨x0, x1⟩]; simp), if_neg (by omega), if_neg (by omega)]
  unfold partsL
  rw [if_pos hpe]
  exact parts_fair h0 (by omega) fun w hw => (hb w hw).1
theorem parts_leB {t : Int} {W p : List Int} (h : PartsFair t W p) (h0 : 0 ≤ t) (hlt : t < sumI W) (hw : ∀ w ∈ W, 0 ≤ w) {k : Nat} {v : Int} (hv : W[k]? = some v) : ∃ x, p[k]? = some x ∧ 0 ≤ x ∧ x ≤ v := by
  obtain ⟨x, hx, h1, h2, h3, h4⟩ := h.get k v hv
  have hv0 := hw v (List.mem_of_getElem? hv)
  have hx0 := h.nonneg h0 (by omega) hw x (List.mem_of_getElem? hx)
  refine ⟨x, hx, hx0, ?_⟩
  rcases Int.lt_or_eq_of_le hv0 with hv1 | hv1
  · have hm : t * v < v * sumI W := by rw [Int.mul_comm t]; exact Int.mul_lt_mul_of_pos_left hlt hv1
    have : t * v / sumI W < v := by rw [Int.ediv_lt_iff_lt_mul (by omega)]; exact hm
    omega
  · have := h4 hv1.symm; omega
def svd (t : Int) (r : List Int) : List Int := if t < sumI r then partsL t r else r
structure SvdOk (t : Int) (r p : List Int) : Prop where
  len : p.length = r.length
  le : ∀ (j : Nat) (v : Int), r[j]? = some v → ∃ x, p[j]? = some x ∧ 0 ≤ x ∧ x ≤ v
  sum : sumI p = min t (sumI r)
theorem svd_okB {t : Int} {r : List Int} (h0 : 0 ≤ t) (h1 : t ≤ 1000000) (hl : r.length ≤ 100) (hb : ∀ x ∈ r, 0 ≤ x ∧ x ≤ 1000000) : SvdOk t r (svd t r) := by
  unfold svd
  by_cases h : t < sumI r
  · rw [if_pos h]
    have hf := parts_okB h0 h1 hl hb h
    exact ⟨hf.len, fun j v hv => parts_leB hf h0 h (fun w hw => (hb w hw).1) hv, by rw [hf.sum]; omega⟩
  · rw [if_neg h]
    exact ⟨rfl, fun j v hv => ⟨v, hv, (hb v (List.mem_of_getElem? hv)).1, Int.le_refl _⟩, by omega⟩
/-- lists of the same length, each element between 0 and the other's -/
inductive Under : List Int → List Int → Prop
  | nil : Under [] []
  | cons {x v : Int} {p r : List Int} (h0 : 0 ≤ x) (h1 : x ≤ v) (h : Under p r) : Under (x :: p) (v :: r)
theorem Under.app {p r q s : List Int} (h : Under p r) (k : Under q s) : Under (p ++ q) (r ++ s) := by
  induction h with
  | nil => exact k
  | cons h0 h1 _ ih => exact .cons h0 h1 ih
theorem Under.of : ∀ {p r : List Int}, p.length = r.length → (∀ (j : Nat) (v : Int), r[j]? = some v → ∃ x, p[j]? = some x ∧ 0 ≤ x ∧ x ≤ v) → Under p r
  | [], [], _, _ => .nil
  | [], _ :: _, h, _ => by simp at h
  | _ :: _, [], h, _ => by simp at h
  | x :: p, v :: r, hl, h => by
    obtain ⟨y, hy, y0, y1⟩ := h 0 v rfl
    simp only [List.getElem?_cons_zero, Option.some.injEq] at hy
    subst hy
    exact .cons y0 y1 (Under.of (by simpa using hl) fun j u hu => by
      obtain ⟨z, hz, z0, z1⟩ := h (j + 1) u (by simpa using hu)
      exact ⟨z, by simpa using hz, z0, z1⟩)
theorem Under.len {p r : List Int} (h : Under p r) : p.length = r.length := by
  induction h with
  | nil => rfl
  | cons _ _ _ ih => simp [ih]
theorem Under.get {p r : List Int} (h : Under p r) : ∀ {k : Nat} {v : Int}, r[k]? = some v → ∃ x, p[k]? = some x ∧ 0 ≤ x ∧ x ≤ v := by
  induction h with
  | nil => intro k v h; simp at h
  | cons h0 h1 _ ih =>
    intro k v hv
    cases k with
    | zero => simp only [List.getElem?_cons_zero, Option.some.injEq] at hv; subst hv; exact ⟨_, rfl, h0, h1⟩
    | succ k => exact ih (by simpa using hv)
theorem srv_flat : ∀ (RR : List (List Int)) (left : Int), RanksOk RR → 0 ≤ left → left ≤ 1000000 → Under (srvL left RR).flatten RR.flatten ∧ sumI (srvL left RR).flatten = min left (sumI RR.flatten)
  | [], left, _, h0, _ => ⟨.nil, by simp [srvL, sumI]; omega⟩
  | r :: RR, left, hR, h0, h1 => by
    have hb := hR.b r (by simp)
    have hk := hR.k r (by simp)
    have o := svd_okB h0 h1 hk hb
    have s0 : 0 ≤ sumI r := sumI_nonneg fun x hx => (hb x hx).1
    have s1 : 0 ≤ sumI RR.flatten := sumI_nonneg fun x hx => by
      obtain ⟨g, hg, hx⟩ := List.mem_flatten.1 hx
      exact (hR.b g (by simp [hg]) x hx).1
    obtain ⟨u, s⟩ := srv_flat RR (left - min left (sumI r)) ⟨by have := hR.n; simp at this; omega, fun q hq => hR.k q (by simp [hq]), fun q hq => hR.b q (by simp [hq])⟩ (by omega) (by omega)
    refine ⟨?_, ?_⟩
    · simp only [srvL, List.flatten_cons]
      exact (Under.of o.len o.le).app u
    · simp only [srvL, List.flatten_cons, sumI_append]
      rw [s]
      have : sumI (if left < sumI r then partsL left r else r) = min left (sumI r) := o.sum
      rw [this]; omega
theorem srv_rows : ∀ (RR : List (List Int)) (left : Int), RanksOk RR → 0 ≤ left → left ≤ 1000000 → (srvL left RR).length = RR.length ∧ ∀ p ∈ srvL left RR, ∃ r ∈ RR, p.length = r.length
  | [], left, _, _, _ => ⟨rfl, fun p h => by simp [srvL] at h⟩
  | r :: RR, left, hR, h0, h1 => by
    have hb := hR.b r (by simp)
    have hk := hR.k r (by simp)
    have o := svd_okB h0 h1 hk hb
    have s0 : 0 ≤ sumI r := sumI_nonneg fun x hx => (hb x hx).1
    obtain ⟨u, s⟩ := srv_rows RR (left - min left (sumI r)) ⟨by have := hR.n; simp at this; omega, fun q hq => hR.k q (by simp [hq]), fun q hq => hR.b q (by simp [hq])⟩ (by omega) (by omega)
    refine ⟨by simp [srvL, u], fun p hp => ?_⟩
    simp only [srvL, List.mem_cons] at hp
    rcases hp with rfl | hp
    · exact ⟨r, by simp, o.len⟩
    · obtain ⟨q, hq, e⟩ := s p hp
      exact ⟨q, by simp [hq], e⟩
/-! the awards -/
def wdT (P : List Tdr) (F : List Int) : Nat → List Awd
  | 0 => []
  | k + 1 => match P[k]?, F[k]? with
    | some x, some g => if g = 0 then wdT P F k else wdT P F k ++ [⟨x.h, x.n, g * 1000, x.p⟩]
    | _, _ => wdT P F k
def ctT (P : List Tdr) (F : List Int) : Nat → Int
  | 0 => 0
  | k + 1 => match P[k]?, F[k]? with
    | some x, some g => if g = 0 then ctT P F k else x.p
    | _, _ => ctT P F k
def slT (F : List Int) : Nat → Int
  | 0 => 0
  | k + 1 => match F[k]? with
    | some g => if g = 0 then slT F k else slT F k + g * 1000
    | none => slT F k
theorem wdT_zero {P : List Tdr} {F : List Int} {k : Nat} (h : F[k]? = some 0) : wdT P F (k + 1) = wdT P F k ∧ ctT P F (k + 1) = ctT P F k ∧ slT F (k + 1) = slT F k := by
  cases hx : P[k]? with
  | none => rw [wdT, ctT, slT, h, hx]; simp
  | some x => rw [wdT, ctT, slT, h, hx]; simp
theorem wdT_more {P : List Tdr} {F : List Int} {k : Nat} {x : Tdr} {g : Int} (hx : P[k]? = some x) (h : F[k]? = some g) (h0 : g ≠ 0) : wdT P F (k + 1) = wdT P F k ++ [⟨x.h, x.n, g * 1000, x.p⟩] ∧ ctT P F (k + 1) = x.p ∧ slT F (k + 1) = slT F k + g * 1000 := by
  rw [wdT, ctT, slT, h, hx]; simp [h0]
theorem wdT_len (P : List Tdr) (F : List Int) : ∀ k, (wdT P F k).length ≤ k
  | 0 => by simp [wdT]
  | k + 1 => by
    have ih := wdT_len P F k
    rw [wdT]
    split
    · split
      · omega
      · simp; omega
    · omega
theorem slT_bd {F : List Int} (h : ∀ x ∈ F, 0 ≤ x ∧ x ≤ 1000000) : ∀ k : Nat, 0 ≤ slT F k ∧ slT F k ≤ k * 1000000000
  | 0 => by simp [slT]
  | k + 1 => by
    have ih := slT_bd h k
    cases hg : F[k]? with
    | none => rw [slT, hg]; simp only; omega
    | some g =>
      have := h g (List.mem_of_getElem? hg)
      rw [slT, hg]; simp only
      split <;> omega
/-- what Hold does -/
def bkP (L : List Tdr) (most : Int) : List Tdr := srt (ltz cmpQ) ((srT L).filter fun x => !decide (most < x.p))
def bkF (L : List Tdr) (n most : Int) : List Int := (srvL (n / 1000) (rkT (bkP L most) (bkP L most).length)).flatten
def bkC (L : List Tdr) (n most : Int) : Int := ctT (bkP L most) (bkF L n most) (bkP L most).length
def bkS (L : List Tdr) (n most : Int) : Int := slT (bkF L n most) (bkP L most).length
def bkA (L : List Tdr) (n most : Int) : List Awd := srt (ltz cmpW) (wdT (bkP L most) (bkF L n most) (bkP L most).length)
theorem cell_heapY {w : World} {b i : Nat} {C : Array Value} {T : TypeId} {u : Value} (h : w.heap[b]? = some (.cells C T (0, 0))) (hi : C[i]? = some u) : w.cell? ⟨b, i, none⟩ = some u := by
  rw [cell_of_row w b i _ T (0, 0) h]; exact hi
section
variable {P : Program} {o : Oper} {a : Act} {w : World} {K : Act → World → Prop} {Q : Exit → Act → World → Prop}
theorem wp_append_run (d s : Operand) (t t' : TypeId) (ho : o.op = .call { callee := .builtin .append, args := #[d, s], argTypes := #[t, t'] }) (v u : Value) (hd : a.eval d = v) (hs : a.eval s = u) {v' : Value} {w' : World}
    (hr : (Builtin.append_ #[t, t'] o.type #[v, u]).run P w = .ok v' w') (h : K (a.put o.dst v') w') : o.wp P a w K Q := by
  unfold Oper.wp execOp
  simp only [ho, resolve, invoke, builtin, Sem.run_bind, Sem.run_pure, Result.andThen_ok, List.map_toArray, List.map_cons, List.map_nil, hd, hs, hr]
  exact h
end
theorem own_neT {w : World} {b base z : Nat} {v : Value} {n : Nat} {ys : List Value} {cs : Array Value} {T E : TypeId} (hT : T ≠ E) (hb : w.heap[b]? = some (.cells cs T (0, 0))) (ho : w.ownsRow base E z v n ys) : some b ≠ v.ownBlock := by
  intro e
  rcases ho.2 with ⟨rfl, _⟩ | ⟨g', cap, cur, rfl, hbg, hgc, _⟩
  · cases e
  · simp only [Value.ownBlock, Option.some.injEq] at e
    subst e
    rw [hb] at hgc
    simp only [Option.some.injEq, Obj.cells.injEq] at hgc
    exact hT hgc.2.1
theorem own_ne2 {w : World} {b1 b2 z1 z2 : Nat} {v1 v2 : Value} {n1 n2 : Nat} {y1 y2 : List Value} {T E : TypeId} (hT : T ≠ E) (h1 : w.ownsRow b1 T z1 v1 n1 y1) (h2 : w.ownsRow b2 E z2 v2 n2 y2) {b : Nat} (e1 : v1.ownBlock = some b) : some b ≠ v2.ownBlock := by
  rcases h1.2 with ⟨rfl, _⟩ | ⟨g', cap, cur, rfl, hbg, hgc, _⟩
  · cases e1
  · simp only [Value.ownBlock, Option.some.injEq] at e1
    subst e1
    exact own_neT hT hgc h2
theorem Sl.ownI {w : World} {base : Nat} {v : Value} {L : List Int} (h : w.ownsRow base 3 1 v L.length (flatE encI L)) : Sl 1 encI (fun b => v.ownBlock = some b ∧ base ≤ b) w v L := by
  have h1 : Sl 1 encI (fun b => base ≤ b) w v L := Sl.own encI_len h rfl (fun _ h => h)
  rcases h.2 with ⟨rfl, h0⟩ | ⟨g, cap, cur, rfl, hbg, hg, hnc, hcm, _⟩
  · have : L = [] := List.eq_nil_of_length_eq_zero h0
    subst this; exact Sl.nil
  · obtain ⟨ao, n, c, e1, e2, e3, e4, e5⟩ := h1
    cases e1
    refine ⟨_, _, _, rfl, e2, e3, e4, ?_⟩
    rcases e5 with e5 | ⟨b, off, k1, k2, k3, k4⟩
    · exact .inl e5
    · cases k1
      exact .inr ⟨_, _, rfl, ⟨rfl, k2⟩, k3, k4⟩
theorem own_set {w : World} {R o base z n : Nat} {v u : Value} {xs : List Value} {cs : Array Value} {T E : TypeId} (hT : T ≠ E) (hb : w.heap[R]? = some (.cells cs T (0, 0))) (h : w.ownsRow base E z v n xs) : (w.setCell ⟨R, o, none⟩ u).ownsRow base E z v n xs := by
  have hne := own_neT hT hb h
  refine ⟨h.1, ?_⟩
  rcases h.2 with hn | ⟨g, cap, cur, rfl, hbg, hg, hrest⟩
  · exact .inl hn
  · exact .inr ⟨g, cap, cur, rfl, hbg, (Below.heap_setCell _ _ _ _ (fun e => hne (by simp only at e; rw [← e]; rfl))).trans hg, hrest⟩
theorem grown_new {w a b : World} {row r : Option Nat} (h : w.grownBy a r) (k : a.grownBy b row) (hr : ∀ j, row = some j → w.heap.size ≤ j) : w.grownBy b r :=
  ⟨k.os.trans h.os, k.tape.trans h.tape, k.output.trans h.output, Nat.le_trans h.size k.size, fun i hi hx => (k.block i (Nat.lt_of_lt_of_le hi h.size) (fun e => by have := hr i e.symm; omega)).trans (h.block i hi hx)⟩
theorem newsAwd (w : World) (g : Nat) (hg : g = w.heap.size) (x0 x1 x2 x3 : Int) : ∀ j u, (encAwd ⟨x0, x1, x2, x3⟩)[j]? = some u → (w.alloc (.cells #[.int .i64 x0, .int .i64 x1, .int .i64 x2, .int .i64 x3] 129 (0, 0))).cell? ((⟨g, 0, none⟩ : Addr).add j) = some u := by
  subst hg
  exact newsL w (encAwd ⟨x0, x1, x2, x3⟩) 129
theorem Sl.inRow {α : Type} {z : Nat} {enc : α → List Value} {P : Nat → Prop} {w w' : World} {B : Nat} {v : Value} {L : List α} (h : Sl z enc P w v L) (hg : w.grownBy w' (some B)) (hp : ∀ b, P b → b ≠ B) : Sl z enc P w' v L :=
  h.block hg.size fun b hb hlt => hg.block b hlt (by simpa using hp b hb)
/-- the ranks: the last one is one's own, the others lie elsewhere -/
structure RkSt (w : World) (base : Nat) (ov : Value) (vs : List Value) (u : Value) (Rs : List (List Int)) (r : List Int) : Prop where
  row : w.ownsRow base 233 1 ov (vs.length + 1) (vs ++ [u])
  old : RowsI (fun b => base ≤ b ∧ some b ≠ ov.ownBlock ∧ some b ≠ u.ownBlock) w vs Rs
  last : w.ownsRow base 3 1 u r.length (flatE encI r)
theorem flatV (us : List Value) : flatE encV us = us := by
  unfold flatE encV
  induction us with
  | nil => rfl
  | cons x us ih => simp [List.flatMap_cons, ih]
theorem RkSt.all {w : World} {base : Nat} {ov : Value} {vs : List Value} {u : Value} {Rs : List (List Int)} {r : List Int} (h : RkSt w base ov vs u Rs r) : RowsI (fun b => base ≤ b ∧ some b ≠ ov.ownBlock) w (vs ++ [u]) (Rs ++ [r]) := by
  refine (h.old.mono fun b hb _ => ⟨hb.1, hb.2.1⟩).snoc ?_
  have hs : Sl 1 encI (fun b => u.ownBlock = some b ∧ base ≤ b) w u r := Sl.ownI h.last
  exact hs.mono fun b hb _ => ⟨hb.2, fun e => own_ne2 (by decide) h.last h.row hb.1 e⟩
theorem RkSt.below {w w' : World} {base : Nat} {ov : Value} {vs : List Value} {u : Value} {Rs : List (List Int)} {r : List Int} (h : RkSt w base ov vs u Rs r) (hb : Below w.heap.size w w') : RkSt w' base ov vs u Rs r :=
  ⟨ownsRow_belowZ h.row hb, h.old.below hb, ownsRow_belowZ h.last hb⟩
/-- the ranks with a new one behind, still empty -/
theorem RkSt.fresh {w0 w' : World} {base : Nat} {ov ov' : Value} {us : List Value} {R : List (List Int)} (hR : RowsI (fun b => base ≤ b ∧ some b ≠ ov.ownBlock) w0 us R) (hg : w0.grownBy w' ov.ownBlock) (hown : w'.ownsRow base 233 1 ov' (us.length + 1) (us ++ [.slice none 0 0])) (hloc : ov'.ownBlock = ov.ownBlock ∨ ov'.ownBlock = some w0.heap.size) : RkSt w' base ov' us (.slice none 0 0) R [] :=
  ⟨hown, (hR.app hg hloc (Nat.le_refl _)).mono fun b hb _ => ⟨hb.1, hb.2, by intro e; cases e⟩, World.ownsRow_nil _ _ _ _⟩
/-- a number is appended to the slice in a cell of a row -/
structure D15 (w0 : World) (g q : Nat) (cur : Array Value) (base : Nat) (lv : Value) (xs : List Int) (x : Int) (bs ap st : Bool) (s v : Value) (w' : World) : Prop where
  box : st = false → w'.heap[g]? = some (.cells cur 233 (0, 0))
  pre : ap = false → st = false ∧ Below w0.heap.size w0 w' ∧ (bs = true → ∃ gg, s = .slice (some ⟨gg, 0, none⟩) 1 1 ∧ w'.cell? ⟨gg, 0, none⟩ = some (.int .i64 x))
  app : ap = true → st = false → w0.grownBy w' lv.ownBlock ∧ w'.ownsRow base 3 1 v (xs.length + 1) (flatE encI (xs ++ [x])) ∧ (v.ownBlock = lv.ownBlock ∨ ∃ b, v.ownBlock = some b ∧ w0.heap.size ≤ b)
  fin : st = true → ∃ v', w'.heap[g]? = some (.cells (cur.setIfInBounds q v') 233 (0, 0)) ∧ w'.ownsRow base 3 1 v' (xs.length + 1) (flatE encI (xs ++ [x])) ∧ (v'.ownBlock = lv.ownBlock ∨ ∃ b, v'.ownBlock = some b ∧ w0.heap.size ≤ b) ∧ w0.heap.size ≤ w'.heap.size ∧ w'.os = w0.os ∧ w'.tape = w0.tape ∧ w'.output = w0.output ∧ ∀ b, b < w0.heap.size → b ≠ g → some b ≠ lv.ownBlock → w'.heap[b]? = w0.heap[b]?
section
variable {w0 w' : World} {g q base : Nat} {cur : Array Value} {lv : Value} {xs : List Int} {x : Int} {bs ap st : Bool} {s v : Value}
theorem D15.start (hB : w0.heap[g]? = some (.cells cur 233 (0, 0))) (hw : Below w0.heap.size w0 w') : D15 w0 g q cur base lv xs x false false false s v w' :=
  ⟨fun _ => (hw.block g (Array.getElem?_eq_some_iff.1 hB).1).trans hB, fun _ => ⟨rfl, hw, fun h => (by cases h)⟩, fun h => (by cases h), fun h => (by cases h)⟩
theorem D15.built (h : D15 w0 g q cur base lv xs x false false st s v w') : D15 w0 g q cur base lv xs x true false st (.slice (some ⟨w'.heap.size, 0, none⟩) 1 1) v (w'.alloc (.cells #[.int .i64 x] 3 (0, 0))) := by
  obtain ⟨h1, h2, _⟩ := h.pre rfl
  subst h1
  exact ⟨fun _ => (heap_alloc_old w' _ (Array.getElem?_eq_some_iff.1 (h.box rfl)).1).trans (h.box rfl), fun _ => ⟨rfl, bal h2 _, fun _ => ⟨_, rfl, World.cell?_alloc_at _ _ _ _ rfl⟩⟩, fun h => (by cases h), fun h => (by cases h)⟩
theorem D15.appd (h : D15 w0 g q cur base lv xs x true false st s v w') (ho : w0.ownsRow base 3 1 lv xs.length (flatE encI xs)) (hz : base ≤ w0.heap.size) (hl : xs.length ≤ 1000) (ty : TypeId) :
    ∃ v' w2, (Builtin.append_ #[22, 22] ty #[lv, s]).run Tryz.prog w' = .ok v' w2 ∧ D15 w0 g q cur base lv xs x true true false s v' w2 := by
  obtain ⟨h1, h2, h3⟩ := h.pre rfl
  obtain ⟨gg, rfl, hg⟩ := h3 rfl
  subst h1
  obtain ⟨i1, hi, hz0, hz1, hz2⟩ := info_parts infoInt
  have hown := ownsRow_belowZ ho h2
  obtain ⟨v', w2, hrun, ho2, hg2, _, hloc⟩ := run_append_own_at (P := Tryz.prog) w' base 22 ty 3 i1 (.int .i64 0) 1 8 Tryz.underlying22 hi hz0 hz1 hz2 rfl (by decide) lv xs.length _ hown ⟨gg, 0, none⟩ 1 1 [.int .i64 x] rfl
    (fun j y hj => by
      have : j = 0 := by have := (List.getElem?_eq_some_iff.1 hj).1; simpa using this
      subst this
      simp only [List.getElem?_cons_zero, Option.some.injEq] at hj
      subst hj
      rw [add_litZ]; exact hg) (fun y hy => by simp only [List.mem_singleton] at hy; subst hy; rfl) (by unfold maxLen; omega) (by omega) (by have := h2.size; omega)
  have hcB := h.box rfl
  have hne := own_neT (by decide) hcB hown
  refine ⟨v', w2, hrun, fun _ => (hg2.block g (Array.getElem?_eq_some_iff.1 hcB).1 hne).trans hcB, fun h => (by cases h), fun _ _ => ⟨⟨hg2.os.trans h2.os, hg2.tape.trans h2.tape, hg2.output.trans h2.output, Nat.le_trans h2.size hg2.size, fun b hb hn => (hg2.block b (by have := h2.size; omega) hn).trans (h2.block b hb)⟩, ?_, ?_⟩, fun h => (by cases h)⟩
  · rw [flatE_snoc]; exact ho2
  · rcases hloc with e | e
    · exact .inl e
    · exact .inr ⟨_, e, h2.size⟩
theorem D15.stored (h : D15 w0 g q cur base lv xs x true true false s v w') : D15 w0 g q cur base lv xs x true true true s v (w'.setCell ⟨g, q, none⟩ v) := by
  obtain ⟨h1, h2, h3⟩ := h.app rfl rfl
  have hB := h.box rfl
  have e1 := heap_setCell_same w' g q _ _ v hB
  have hoth : ∀ b, b ≠ g → (w'.setCell ⟨g, q, none⟩ v).heap[b]? = w'.heap[b]? := fun b hb => Below.heap_setCell _ _ _ _ (by simp only; omega)
  refine ⟨fun h => (by cases h), fun h => (by cases h), fun _ h => (by cases h), fun _ => ⟨v, e1, ⟨h2.1, ?_⟩, h3, by have := h1.size; simpa [World.setCell] using this, h1.os, h1.tape, h1.output, fun b hb hR hn => (hoth b hR).trans (h1.block b hb hn)⟩⟩
  have hne := own_neT (by decide) hB h2
  rcases h2.2 with hn | ⟨g', cap, cur', rfl, hbg, hg, hrest⟩
  · exact .inl hn
  · exact .inr ⟨g', cap, cur', rfl, hbg, (hoth g' (fun e => hne (by rw [e]; rfl))).trans hg, hrest⟩
end
/-- the ranks behind that region -/
theorem RkSt.more {w0 w' : World} {base g cap : Nat} {cur : Array Value} {vs : List Value} {u v' : Value} {Rs : List (List Int)} {r : List Int} {x : Int} {q : Nat} (hq : vs.length = q) (h : RkSt w0 base (.slice (some ⟨g, 0, none⟩) (q + 1) cap) vs u Rs r)
    (hc : w0.heap[g]? = some (.cells cur 233 (0, 0))) (h1 : w'.heap[g]? = some (.cells (cur.setIfInBounds q v') 233 (0, 0))) (h2 : w'.ownsRow base 3 1 v' (r.length + 1) (flatE encI (r ++ [x]))) (h3 : v'.ownBlock = u.ownBlock ∨ ∃ b, v'.ownBlock = some b ∧ w0.heap.size ≤ b) (hz : w0.heap.size ≤ w'.heap.size)
    (hf : ∀ b, b < w0.heap.size → b ≠ g → some b ≠ u.ownBlock → w'.heap[b]? = w0.heap[b]?) : RkSt w' base (.slice (some ⟨g, 0, none⟩) (q + 1) cap) vs v' Rs (r ++ [x]) := by
  subst hq
  refine ⟨?_, ⟨h.old.1, fun k y G hy hG => ?_⟩, by rw [List.length_append]; exact h2⟩
  · refine ⟨by simp, .inr ?_⟩
    rcases h.row.2 with ⟨e, _⟩ | ⟨g', cap', cur', e, hbg, hgc, q1, q2, q3, q4⟩
    · cases e
    · cases e
      rw [hc] at hgc
      simp only [Option.some.injEq, Obj.cells.injEq] at hgc
      obtain ⟨rfl, -, -⟩ := hgc
      refine ⟨g, cap, _, rfl, hbg, h1, q1, q2, by simpa using q3, ?_⟩
      rw [Nat.mul_one] at q4 ⊢
      rw [Array.toList_setIfInBounds, List.take_set, q4]
      simp
  · have hs := h.old.2 k y G hy hG
    have hs2 : Sl 1 encI (fun b => (base ≤ b ∧ some b ≠ (Value.slice (some ⟨g, 0, none⟩) (vs.length + 1) cap).ownBlock ∧ some b ≠ u.ownBlock) ∧ b < w0.heap.size) w0 y G := hs.mono fun b hb hlt => ⟨hb, hlt⟩
    refine (hs2.block hz fun b hb hlt => hf b hlt (fun e => hb.1.2.1 (by rw [e]; rfl)) hb.1.2.2).mono fun b hb _ => ⟨hb.1.1, hb.1.2.1, fun e => ?_⟩
    rcases h3 with h3 | ⟨b', h3, hlt⟩
    · rw [h3] at e; exact hb.1.2.2 e
    · rw [h3] at e; cases e; omega
theorem RkSt.cellq {w : World} {base g cap q : Nat} {vs : List Value} {u : Value} {Rs : List (List Int)} {r : List Int} (hq : vs.length = q) (h : RkSt w base (.slice (some ⟨g, 0, none⟩) (q + 1) cap) vs u Rs r) : ∃ cur, w.heap[g]? = some (.cells cur 233 (0, 0)) ∧ cur[q]? = some u ∧ base ≤ g := by
  subst hq
  rcases h.row.2 with ⟨e, _⟩ | ⟨g', cap', cur', e, hbg, hgc, q1, q2, q3, q4⟩
  · cases e
  · cases e
    refine ⟨cur', hgc, ?_, hbg⟩
    rw [Nat.mul_one] at q4
    have : (cur'.toList.take (vs.length + 1))[vs.length]? = some u := by rw [q4, List.getElem?_append_right (Nat.le_refl _), Nat.sub_self]; rfl
    rw [List.getElem?_take_of_lt (by omega)] at this
    simpa using this
theorem RkSt.lit {w : World} {base : Nat} {ra : Option Addr} {rc q : Nat} {vs : List Value} {u : Value} {Rs : List (List Int)} {r : List Int} (h : RkSt w base (.slice ra (q + 1) rc) vs u Rs r) : ∃ g, ra = some ⟨g, 0, none⟩ := by
  rcases h.row.2 with ⟨e, _⟩ | ⟨g', cap', cur', e, _⟩
  · cases e
  · cases e; exact ⟨_, rfl⟩
theorem bdrN {B n : Nat} {w w1 : World} (h : Below B w w1) : Below B w (w1.drewN n) := ⟨h.os, h.tape, h.output, h.size, h.block⟩
/-- the ranks while tenders are taken: none yet, or with a last one -/
def RkAt (w : World) (base : Nat) (ov : Value) (us : List Value) (R : List (List Int)) : Prop :=
  w.ownsRow base 233 1 ov us.length us ∧ RowsI (fun b => base ≤ b ∧ some b ≠ ov.ownBlock) w us R ∧ (us = [] ∨ ∃ vs u Rs r, us = vs ++ [u] ∧ R = Rs ++ [r] ∧ RkSt w base ov vs u Rs r)
theorem RkAt.nil {w : World} {base : Nat} : RkAt w base (.slice none 0 0) [] [] := ⟨World.ownsRow_nil _ _ _ _, RowsI.nil, .inl rfl⟩
theorem RkSt.at_ {w : World} {base : Nat} {ov : Value} {vs : List Value} {u : Value} {Rs : List (List Int)} {r : List Int} (h : RkSt w base ov vs u Rs r) : RkAt w base ov (vs ++ [u]) (Rs ++ [r]) :=
  ⟨by rw [List.length_append]; exact h.row, h.all, .inr ⟨vs, u, Rs, r, rfl, rfl, h⟩⟩
theorem RkAt.below {w w' : World} {base : Nat} {ov : Value} {us : List Value} {R : List (List Int)} (h : RkAt w base ov us R) (hb : Below w.heap.size w w') : RkAt w' base ov us R :=
  ⟨ownsRow_belowZ h.1 hb, h.2.1.below hb, h.2.2.elim .inl fun ⟨vs, u, Rs, r, e1, e2, q⟩ => .inr ⟨vs, u, Rs, r, e1, e2, q.below hb⟩⟩
theorem bcellZ {w w' : World} {g o : Nat} (h : w'.heap[g]? = w.heap[g]?) : w'.cell? ⟨g, o, none⟩ = w.cell? ⟨g, o, none⟩ := by
  unfold World.cell?
  simp only [h]
set_option maxHeartbeats 16000000 in
set_option maxRecDepth 100000 in
theorem bhold_any (P : Nat → Prop) (v : Value) (L : List Tdr) (am most : Int) (w : World) (hS : Sl 4 encTdr P w v L) (hok : ∀ x ∈ L, TdrOk x) (hd : KeysT L) (hl : L.length ≤ 12) (a0 : 1000 ≤ am) (a1 : am ≤ 1000000000) (a2 : am % 1000 = 0) (m0 : 1 ≤ most) (m1 : most ≤ 200000) :
    Calls Tryz.prog 100 #[v, .int .i64 am, .int .i64 most] w fun e w' => ∃ av, e = .returned (.tuple #[.agg #[.int .i64 (bkC L am most), .int .i64 (bkS L am most), av], .int .i64 0]) ∧ w'.ownsRow w.heap.size 129 4 av (bkA L am most).length (flatE encAwd (bkA L am most)) ∧ Below w.heap.size w w' := by
  obtain ⟨la, ln, lc, rfl, hln, -, -⟩ := hS.shape
  have KC := Lib.hid (fun (U : World) (hU : Below w.heap.size w U) => tcheck_any P _ L U (hS.below hU) hok hd (by omega))
  have KL := Lib.hid (fun U => lots_any am U a0 a1 a2)
  have hmo : inB most 1 200000 = true := inB_iff.2 ⟨m0, m1⟩
  have KO := Lib.hid (fun (U : World) (hU : Below w.heap.size w U) => ordered_any P _ L U (hS.below hU) (by omega))
  have egM : ∀ args w, (callFunc 205 args).run Tryz.prog w = .ok (.enter 205 args) w := enters_of Tryz.func205 (by kernel_rfl) rfl
  have egQ : ∀ args w, (callFunc 207 args).run Tryz.prog w = .ok (.enter 207 args) w := enters_of Tryz.func207 (by kernel_rfl) rfl
  have egW : ∀ args w, (callFunc 211 args).run Tryz.prog w = .ok (.enter 211 args) w := enters_of Tryz.func211 (by kernel_rfl) rfl
  have hSl : (srT L).length = ln := by unfold srT; rw [srt_length]; exact hln
  have HP := Lib.hid (show ∀ x ∈ bkP L most, TdrOk x from fun x hx => hok x ((srt_mem _ _).1 (List.mem_filter.1 ((srt_mem _ _).1 hx)).1))
  have hPl : (bkP L most).length ≤ 12 := by
    unfold bkP; rw [srt_length]
    exact Nat.le_trans (List.length_filter_le _ _) (by omega)
  have KD := Lib.hid (fun (U : World) (u : Value) (ho : U.ownsRow (w.heap.size + 2) 122 4 u (srT L).length (flatE encTdr (srT L))) (hB : U.cell? ⟨w.heap.size, 0, none⟩ = some (.int .i64 most)) =>
    dlfTdr_any 205 #[.pointer (some ⟨w.heap.size, 0, none⟩)] (fun x => decide (most < x.p)) (fun _ => True) (w.heap.size + 2) u (srT L) U egM (fun W hW x _ => tmost_any w.heap.size most x.h x.n x.p x.a W (hW.cell hB (fun e => by have h : w.heap.size + 2 ≤ w.heap.size := (ho.lt _ e.symm).1; omega))) (fun _ _ => trivial) ho (by omega))
  have KQ := Lib.hid (fun (U : World) (u : Value) (hz : w.heap.size + 2 ≤ U.heap.size) (ho : U.ownsRow (w.heap.size + 2) 122 4 u ((srT L).filter fun x => !decide (most < x.p)).length (flatE encTdr ((srT L).filter fun x => !decide (most < x.p)))) =>
    sortTdr_own 207 #[] cmpQ (fun _ => True) (w.heap.size + 2) u ((srT L).filter fun x => !decide (most < x.p)) U egQ (fun W _ x y _ _ => qcompare_any x.h x.n x.p x.a y.h y.n y.p y.a W) cmpQ_wk (fun _ _ => trivial) hz ho (Nat.le_trans (List.length_filter_le _ _) (by omega)))
  have hPlen : ((srT L).filter fun x => !decide (most < x.p)).length = (bkP L most).length := by unfold bkP; rw [srt_length]
  have hPdef : srt (ltz cmpQ) ((srT L).filter fun x => !decide (most < x.p)) = bkP L most := rfl
  unfold bkC bkS bkA bkF
  rw [hPlen, hPdef] at KQ
  rw [hPlen] at KD
  obtain ⟨Q, hQ⟩ : ∃ Q, bkP L most = Q := ⟨_, rfl⟩
  rw [hQ] at HP hPl KQ KD ⊢
  obtain ⟨S, hSS⟩ : ∃ S, srT L = S := ⟨_, rfl⟩
  rw [hSS] at KO KD KQ hSl
  have HSL := Lib.hid hSl
  have hln12 : ln ≤ 12 := by omega
  clear hS hok hd hl hln egM egQ hPlen hPdef hQ hSS hSl
  go_enter Tryz.func100, Tryz.ntmps100
  go_wp2_with fail
  refine (KC.out _ (bal (bal brefl _) _)).mono ?_
  rintro e w1 ⟨rfl, hb1⟩
  have z1 := hb1.size
  simp only [World.size_alloc] at z1
  have b0 : w1.cell? ⟨w.heap.size, 0, none⟩ = some (.int .i64 most) := keepB hb1 (by go_simp)
  have X1 := (hb1.block (w.heap.size + 1) (by simp)).trans (show _ = some (.cells #[.int .i64 0, .int .i64 0, .slice none 0 0] 125 (0, 0)) by first | exact heap_alloc_new _ _ | (have q := heap_alloc_new (w.alloc (.cells #[.int .i64 most] 3 (0, 0))) (.cells #[.int .i64 0, .int .i64 0, .slice none 0 0] 125 (0, 0)); simpa using q))
  have HB1 := Lib.hid (bup (bal (bal brefl _) _) hb1)
  have HX1 := Lib.hid X1
  clear hb1 X1
  have hbz : w.heap.size < w1.heap.size := by omega
  go_wp2_with fail
  refine (KL.out _).mono ?_
  rintro e w2 ⟨rfl, rfl⟩
  go_wp2_with fail
  refine (amongY_any _ _ _ _).mono ?_
  rw [hmo]
  rintro e w2 ⟨rfl, rfl⟩
  go_wp2_with fail
  refine (KO.out _ HB1.out).mono ?_
  rintro e w3 ⟨v3, rfl, ho3, hb3⟩
  replace b0 := keepB hb3 b0
  have z3 := hb3.size
  have HX3 := Lib.hid ((hb3.block _ (by omega)).trans HX1.out)
  have HB3 := Lib.hid (bup HB1.out hb3)
  have HO3 := Lib.hid (ownsRow_baseZ ho3 z1)
  obtain ⟨oa3, oc3, rfl⟩ := own_sl ho3
  clear ho3 hb3 HX1 HB1
  go_wp2_with fail
  refine (KD.out _ _ HO3.out b0).mono ?_
  rintro e w4 ⟨v4, rfl, ho4, hg4⟩
  have hne3 : ∀ b, b < w.heap.size + 2 → some b ≠ (Value.slice oa3 S.length oc3).ownBlock := fun b hb e => by have := (HO3.out.lt b e.symm).1; omega
  have z4 := hg4.size
  have HX4 := Lib.hid ((hg4.block _ (by omega) (hne3 _ (by omega))).trans HX3.out)
  have HB4 := Lib.hid (HB3.out.grown hg4 (by have := HB3.out.size; omega) (fun q hq => by have := (HO3.out.lt q hq).1; omega))
  have HO4 := Lib.hid ho4
  obtain ⟨oa4, oc4, rfl⟩ := own_sl ho4
  clear ho4 hg4 HX3 HB3 HO3 hne3 KD b0
  go_wp2_with fail
  refine (KQ.out _ _ (by omega) HO4.out).mono ?_
  rintro e w5 ⟨rfl, ho5, hb5⟩
  have z5 := hb5.size
  have HX5 := Lib.hid ((hb5.block _ (by omega)).trans HX4.out)
  have HB5 := Lib.hid (HB4.out.trans (hb5.mono (by omega)))
  have hS5 : Sl 4 encTdr (fun b => w.heap.size + 2 ≤ b ∧ b < w5.heap.size) w5 _ Q := (Sl.own (P := fun b => w.heap.size + 2 ≤ b) encTdr_len ho5 rfl (fun _ h => h)).mono fun b h hlt => ⟨h, hlt⟩
  have HS5 := Lib.hid hS5
  obtain ⟨n, hn⟩ : ∃ n, Q.length = n := ⟨_, rfl⟩
  rw [hn] at HS5 hPl ⊢
  have HN := Lib.hid hn
  clear ho5 hb5 hS5 hn HX4 HB4 HO4 KQ KC KL KO
  go_upto_region 9 with fail
  have KR := Lib.hid (rkT_ok (P := Q))
  obtain ⟨j1, ji, jz0, jz1, jz2⟩ := info_parts infoRk
  go_wp2
  go_loopw [40, 9] (fun iv ov wr => ∃ (k : Nat) (us : List Value), k ≤ n ∧ iv = .int .i64 k ∧ RkAt wr w5.heap.size ov us (rkT Q k) ∧ Below w5.heap.size w5 wr) (fun iv _ _ => n - (intOf iv).toNat)
  case atStart => exact ⟨0, [], by omega, rfl, RkAt.nil, brefl⟩
  case round =>
    obtain ⟨k, us, hk, rfl, hrk, hbr⟩ := hrel
    have zr := hbr.size
    by_cases hlt : k < n
    · obtain ⟨bb, off, x0, x1, x2, x3, rfl, -, hbb, hx, t0, t1, t2, t3⟩ := (HS5.out.below hbr).tdr hlt
      have hkz : (k : Int) < (n : Int) := by omega
      have hax := HP.out _ (List.mem_of_getElem? hx)
      have hxa := hax.a0
      have hxb := hax.a1
      simp only at hxa hxb
      have hdv : x3.tdiv 1000 = x3 / 1000 := Int.tdiv_eq_ediv_of_nonneg (by omega)
      obtain ⟨X, hX⟩ : ∃ X, x3 / 1000 = X := ⟨_, rfl⟩
      rw [hX] at hdv
      have hX0 : 0 ≤ X ∧ X ≤ 1000000 := by omega
      have HXX := Lib.hid hX
      have HXW := Lib.hid (wzC X (by omega))
      have huk : us.length = (rkT Q k).length := hrk.2.1.1
      have hul : us.length ≤ 12 := by have := (KR.out k (by have := HN.out; omega)).n; omega
      obtain ⟨m, hm⟩ : ∃ m, us.length = m := ⟨_, rfl⟩
      have hown := hrk.1
      rw [hm] at hown hul
      obtain ⟨ra, rc, rfl⟩ := own_sl hown
      have HOW := Lib.hid hown
      have HM := Lib.hid hm
      have HRK := Lib.hid hrk
      obtain ⟨W1, hW1⟩ : ∃ W, W = wr.alloc (.cells #[.int .i64 x0, .int .i64 x1, .int .i64 x2, .int .i64 x3] 122 (0, 0)) := ⟨_, rfl⟩
      have hb1 : Below wr.heap.size wr W1 := by rw [hW1]; exact bal brefl _
      have B1 : W1.heap[wr.heap.size]? = some (.cells #[.int .i64 x0, .int .i64 x1, .int .i64 x2, .int .i64 x3] 122 (0, 0)) := by rw [hW1]; exact heap_alloc_new wr _
      have d2 : W1.cell? ⟨wr.heap.size, 2, none⟩ = some (.int .i64 x2) := cell_heapY B1 rfl
      have z1W : wr.heap.size < W1.heap.size := (Array.getElem?_eq_some_iff.1 B1).1
      have HW1 := Lib.hid hW1
      have HBX := Lib.hid B1
      have HB1 := Lib.hid hb1
      have HBR := Lib.hid hbr
      have HQX := Lib.hid hx
      clear hax hX huk hm hown hrk hW1 hb1 B1
      go_upto_region 12 with fail
      rw [← HW1.out]
      clear t0 t1 t2 t3
      by_cases hk0 : k = 0
      · subst hk0
        have HNW := Lib.hid (rkT_new HQX.out (newB_zero Q))
        clear hbr
        go_quiet (fail)
        go_upto_region 13 with fail
        generalize hW2 : World.drewN _ _ = W2
        have hb2 : Below W1.heap.size W1 W2 := by rw [← hW2]; exact bdrN brefl
        have hb02 : Below wr.heap.size wr W2 := bup HB1.out hb2
        have z2 := hb02.size
        have HTB2 := Lib.hid ((hb2.block _ z1W).trans HBX.out)
        have HOW2 := Lib.hid (ownsRow_belowZ HOW.out hb02)
        have HRK2 := Lib.hid (HRK.out.below hb02)
        have HBR2 := Lib.hid (bup HBR.out hb02)
        have zW2 : wr.heap.size < W2.heap.size := by have := hb2.size; omega
        clear hW2 hb2 hb02 d2
        go_upto_region 14 with (at_builtin; go_must (refine wpList_append_own_at _ rfl _ _ 231 rfl w5.heap.size 233 j1 (.agg #[.slice none 0 0]) 1 24 Tryz.underlying231 ji jz0 jz1 jz2 rfl (by decide) _ _ _ rfl (HOW2.out.alloc _) ⟨_, 0, none⟩ 1 1 (encV (.slice none 0 0)) rfl rfl (newsL _ _ _) (by intro u hu; simp only [encV, List.mem_singleton] at hu; subst hu; rfl) (by unfold maxLen; omega) (by omega) (by simp; omega) ?_); intro v' w9 hown' hgrow _ hloc)
        have hst0 : RkSt w9 w5.heap.size v' us (.slice none 0 0) (rkT Q 0) [] := RkSt.fresh (HRK2.out.2.1.below (bal brefl _)) hgrow (by rw [HM.out]; exact hown') hloc
        have HTB := Lib.hid ((hgrow.block wr.heap.size (by simp; omega) (fun e => by have := (HOW.out.lt _ e.symm).2; omega)).trans ((heap_alloc_old W2 _ zW2).trans HTB2.out))
        have HB9 := Lib.hid (show Below w5.heap.size w5 w9 from (bal HBR2.out _).grown hgrow (by simp; omega) (fun q hq => (HOW.out.lt q hq).1))
        obtain ⟨ra', rc', rfl⟩ := own_sl hown'
        obtain ⟨q, hqm⟩ : ∃ q, m = q := ⟨_, rfl⟩
        subst hqm
        obtain ⟨vs, u, Rs, r, hst, hvq, hkk⟩ : ∃ vs u Rs r, RkSt w9 w5.heap.size (.slice ra' (m + 1) rc') vs u Rs r ∧ vs.length = m ∧ rkT Q (0 + 1) = Rs ++ [r ++ [X]] := ⟨us, _, _, _, hst0, HM.out, by rw [HNW.out, HXX.out]; rfl⟩
        obtain ⟨g, rfl⟩ := hst.lit
        clear hown' hgrow hloc hst0 HTB2 HOW2 HRK2 HBR2 HNW
        obtain ⟨cur, hcur, hcq, hbg⟩ := hst.cellq hvq
        have hlst := hst.last
        obtain ⟨rl, hrl⟩ : ∃ rl, r.length = rl := ⟨_, rfl⟩
        have hrl60 : rl ≤ 1000 := by
          have h1 := (KR.out (0 + 1) (by have := HN.out; omega)).l (r ++ [X]) (by rw [hkk]; simp)
          rw [List.length_append, hrl] at h1; omega
        rw [hrl] at hlst
        obtain ⟨ua, uc, rfl⟩ := own_sl hlst
        have hgz : g < w9.heap.size := (Array.getElem?_eq_some_iff.1 hcur).1
        have htz : wr.heap.size < w9.heap.size := (Array.getElem?_eq_some_iff.1 HTB.out).1
        have hgt : ¬ g = wr.heap.size := by
          intro e
          have h1 := hcur
          rw [e, HTB.out] at h1
          simp at h1
        have dt3 : w9.cell? ⟨wr.heap.size, 3, none⟩ = some (.int .i64 x3) := cell_heapY HTB.out rfl
        have HST := Lib.hid hst
        have HCU := Lib.hid hcur
        have HCQ := Lib.hid hcq
        have HVQ := Lib.hid hvq
        have HKK := Lib.hid hkk
        have HLS := Lib.hid hlst
        have HRL := Lib.hid hrl
        have HWQ := Lib.hid (wzC (m : Int) (by omega))
        have hq1 : (m : Int) < ((m + 1 : Nat) : Int) := by omega
        have hq2 : (m : Int) < (m : Int) + 1 := by omega
        have hq0 : 0 ≤ (m : Int) := by omega
        clear hst hcur hcq hvq hkk hlst hrl
        obtain ⟨hwq, hiq⟩ := HWQ.out
        go_upto_region 15 with fail
        clear hwq hiq
        refine wp_region_any (by kernel_rfl) ?_
        change wpAny _ _ _ _ _ _ _ (World.drew _)
        refine vf_anyP_inv (J := fun listed a' w' => ∃ t67 t68 t69 t70 t71 t72 t73 t74 t75 t76 t77 t78 : Value, a' = { tmps := #[Value.slice (some ⟨bb, off, none⟩) n oc4, Value.int IntKind.i64 am, Value.int IntKind.i64 most, undef, undef, Value.pointer (some ⟨w.heap.size, 0, none⟩), Value.pointer (some ⟨w.heap.size + 1, 0, none⟩), Value.int IntKind.i64 0, Value.int IntKind.i64 0, Value.slice (some ⟨g, 0, none⟩) (m + 1) rc', Value.int IntKind.i64 0, Value.pointer (some ⟨wr.heap.size, 0, none⟩), Value.pointer (some ⟨g, m, none⟩), undef, undef, undef, undef, Value.slice la ln lc, Value.int IntKind.i64 0, Value.int IntKind.i64 0, Value.bool false, undef, undef, Value.int IntKind.i64 am, Value.bool true, Value.bool false, Value.bool false, Value.int IntKind.i64 most, Value.bool true, Value.bool false, Value.bool false, undef, Value.slice la ln lc, Value.slice oa3 S.length oc3, Value.func (Fn.func 205) #[] #[Value.pointer (some ⟨w.heap.size, 0, none⟩)], Value.slice (some ⟨bb, off, none⟩) n oc4, Value.slice (some ⟨bb, off, none⟩) n oc4, Value.tuple #[], Value.slice (some ⟨bb, off, none⟩) n oc4, Value.int IntKind.i64 ↑n, Value.int IntKind.i64 0, Value.bool true, Value.int IntKind.i64 0, Value.pointer (some ⟨bb, off, none⟩), Value.agg #[Value.int IntKind.i64 x0, Value.int IntKind.i64 x1, Value.int IntKind.i64 x2, Value.int IntKind.i64 x3], Value.int IntKind.i64 0, Value.bool true, Value.bool true, undef, undef, undef, undef, undef, undef, undef, undef, undef, Value.bool true, Value.slice ra m rc, Value.agg #[Value.slice none 0 0], Value.slice (some ⟨W2.heap.size, 0, none⟩) 1 1, Value.slice (some ⟨g, 0, none⟩) (m + 1) rc', Value.slice (some ⟨g, 0, none⟩) (m + 1) rc', Value.slice (some ⟨g, 0, none⟩) (m + 1) rc', Value.int IntKind.i64 (↑m + 1), Value.int IntKind.i64 ↑m, Value.pointer (some ⟨g, m, none⟩), t67, t68, t69, t70, t71, t72, t73, t74, t75, t76, t77, t78, u79, undef, undef, undef, undef, undef, undef, undef, undef, undef, undef, undef, undef, undef, undef, undef, undef, undef, undef, undef, undef, undef, undef, undef, undef, undef, undef, undef, undef, undef, undef, undef, undef, undef, undef, undef, undef, undef, undef, undef, undef, undef, undef, undef, undef, undef], defers := [] } ∧ listed.size = 13 ∧ (listed.getD 0 false = true → t67 = .pointer (some ⟨g, m, none⟩)) ∧ (listed.getD 1 false = true → t68 = .pointer (some ⟨g, m, none⟩)) ∧ (listed.getD 2 false = true → t69 = .pointer (some ⟨g, m, none⟩)) ∧ (listed.getD 3 false = true → t70 = .pointer (some ⟨g, m, none⟩)) ∧ (listed.getD 4 false = true → t71 = .slice ua rl uc) ∧ (listed.getD 5 false = true → t72 = .pointer (some ⟨wr.heap.size, 3, none⟩)) ∧ (listed.getD 6 false = true → t73 = .int .i64 x3) ∧ (listed.getD 7 false = true → t74 = .int .i64 X) ∧ (listed.getD 10 false = true → t77 = .pointer (some ⟨g, m, none⟩)) ∧ (listed.getD 11 false = true → t78 = .pointer (some ⟨g, m, none⟩)) ∧ (listed.getD 2 false = true → listed.getD 1 false = true) ∧ (listed.getD 3 false = true → listed.getD 2 false = true) ∧ (listed.getD 4 false = true → listed.getD 3 false = true) ∧ (listed.getD 6 false = true → listed.getD 5 false = true) ∧ (listed.getD 7 false = true → listed.getD 6 false = true) ∧ (listed.getD 8 false = true → listed.getD 7 false = true) ∧ (listed.getD 9 false = true → listed.getD 4 false = true ∧ listed.getD 8 false = true) ∧ (listed.getD 10 false = true → listed.getD 0 false = true) ∧ (listed.getD 11 false = true → listed.getD 10 false = true) ∧ (listed.getD 12 false = true → listed.getD 9 false = true ∧ listed.getD 11 false = true) ∧ D15 w9 g m cur w5.heap.size (.slice ua rl uc) r X (listed.getD 8 false) (listed.getD 9 false) (listed.getD 12 false) t75 t76 w') ?step ?fin _ _ _ _ ⟨_, _, _, _, _, _, _, _, _, _, _, _, rfl, rfl, fun h => by simp at h, fun h => by simp at h, fun h => by simp at h, fun h => by simp at h, fun h => by simp at h, fun h => by simp at h, fun h => by simp at h, fun h => by simp at h, fun h => by simp at h, fun h => by simp at h, fun h => by simp at h, fun h => by simp at h, fun h => by simp at h, fun h => by simp at h, fun h => by simp at h, fun h => by simp at h, fun h => by simp at h, fun h => by simp at h, fun h => by simp at h, fun h => by simp at h, D15.start HCU.out (bdr brefl)⟩ (by decide)
        case step =>
          rintro listed a' w' ⟨t67, t68, t69, t70, t71, t72, t73, t74, t75, t76, t77, t78, rfl, hsz, f0, f1, f2, f3, f4, f5, f6, f7, f10, f11, o2, o3, o4, o6, o7, o8, o9, o10, o11, o12, hvb⟩ i hi K hK
          obtain ⟨hni, o, ho, hdep⟩ := mem_ready.1 hi
          have hin : i < 13 := (Array.getElem?_eq_some_iff.1 ho).1
          have hself := vf_listed_self hni
          have hno := vf_listed_no hni
          rcases (show i = 0 ∨ i = 1 ∨ i = 2 ∨ i = 3 ∨ i = 4 ∨ i = 5 ∨ i = 6 ∨ i = 7 ∨ i = 8 ∨ i = 9 ∨ i = 10 ∨ i = 11 ∨ i = 12 by omega) with rfl | rfl | rfl | rfl | rfl | rfl | rfl | rfl | rfl | rfl | rfl | rfl | rfl
          · injection ho with ho
            subst ho
            have g8 : (listed.setIfInBounds 0 true).getD 8 false = listed.getD 8 false := getD_set_ne _ (by decide)
            have g9 : (listed.setIfInBounds 0 true).getD 9 false = listed.getD 9 false := getD_set_ne _ (by decide)
            have g12 : (listed.setIfInBounds 0 true).getD 12 false = listed.getD 12 false := getD_set_ne _ (by decide)
            have HVB := Lib.hid hvb
            clear hi hdep hvb
            refine vf_wpOpP_of rfl rfl ?_
            go_simp
            exact hK _ _ ⟨(.pointer (some ⟨g, m, none⟩)), _, _, _, _, _, _, _, _, _, _, _, rfl, by simpa using hsz, fun _ => rfl, fun h => by first | exact f1 (vf_listed_ne (by decide) h) | rfl, fun h => by first | exact f2 (vf_listed_ne (by decide) h) | rfl, fun h => by first | exact f3 (vf_listed_ne (by decide) h) | rfl, fun h => by first | exact f4 (vf_listed_ne (by decide) h) | rfl, fun h => by first | exact f5 (vf_listed_ne (by decide) h) | rfl, fun h => by first | exact f6 (vf_listed_ne (by decide) h) | rfl, fun h => by first | exact f7 (vf_listed_ne (by decide) h) | rfl, fun h => by first | exact f10 (vf_listed_ne (by decide) h) | rfl, fun h => by first | exact f11 (vf_listed_ne (by decide) h) | rfl, fun h => vf_listed_keep (o2 (vf_listed_ne (by decide) h)), fun h => vf_listed_keep (o3 (vf_listed_ne (by decide) h)), fun h => vf_listed_keep (o4 (vf_listed_ne (by decide) h)), fun h => vf_listed_keep (o6 (vf_listed_ne (by decide) h)), fun h => vf_listed_keep (o7 (vf_listed_ne (by decide) h)), fun h => vf_listed_keep (o8 (vf_listed_ne (by decide) h)), fun h => by have q := o9 (vf_listed_ne (by decide) h); exact ⟨vf_listed_keep q.1, vf_listed_keep q.2⟩, fun h => vf_listed_keep (o10 (vf_listed_ne (by decide) h)), fun h => vf_listed_keep (o11 (vf_listed_ne (by decide) h)), fun h => by have q := o12 (vf_listed_ne (by decide) h); exact ⟨vf_listed_keep q.1, vf_listed_keep q.2⟩, by rw [g8, g9, g12]; exact HVB.out⟩
          · injection ho with ho
            subst ho
            have g8 : (listed.setIfInBounds 1 true).getD 8 false = listed.getD 8 false := getD_set_ne _ (by decide)
            have g9 : (listed.setIfInBounds 1 true).getD 9 false = listed.getD 9 false := getD_set_ne _ (by decide)
            have g12 : (listed.setIfInBounds 1 true).getD 12 false = listed.getD 12 false := getD_set_ne _ (by decide)
            have HVB := Lib.hid hvb
            clear hi hdep hvb
            refine vf_wpOpP_of rfl rfl ?_
            go_simp
            exact hK _ _ ⟨_, (.pointer (some ⟨g, m, none⟩)), _, _, _, _, _, _, _, _, _, _, rfl, by simpa using hsz, fun h => by first | exact f0 (vf_listed_ne (by decide) h) | rfl, fun _ => rfl, fun h => by first | exact f2 (vf_listed_ne (by decide) h) | rfl, fun h => by first | exact f3 (vf_listed_ne (by decide) h) | rfl, fun h => by first | exact f4 (vf_listed_ne (by decide) h) | rfl, fun h => by first | exact f5 (vf_listed_ne (by decide) h) | rfl, fun h => by first | exact f6 (vf_listed_ne (by decide) h) | rfl, fun h => by first | exact f7 (vf_listed_ne (by decide) h) | rfl, fun h => by first | exact f10 (vf_listed_ne (by decide) h) | rfl, fun h => by first | exact f11 (vf_listed_ne (by decide) h) | rfl, fun h => vf_listed_keep (o2 (vf_listed_ne (by decide) h)), fun h => vf_listed_keep (o3 (vf_listed_ne (by decide) h)), fun h => vf_listed_keep (o4 (vf_listed_ne (by decide) h)), fun h => vf_listed_keep (o6 (vf_listed_ne (by decide) h)), fun h => vf_listed_keep (o7 (vf_listed_ne (by decide) h)), fun h => vf_listed_keep (o8 (vf_listed_ne (by decide) h)), fun h => by have q := o9 (vf_listed_ne (by decide) h); exact ⟨vf_listed_keep q.1, vf_listed_keep q.2⟩, fun h => vf_listed_keep (o10 (vf_listed_ne (by decide) h)), fun h => vf_listed_keep (o11 (vf_listed_ne (by decide) h)), fun h => by have q := o12 (vf_listed_ne (by decide) h); exact ⟨vf_listed_keep q.1, vf_listed_keep q.2⟩, by rw [g8, g9, g12]; exact HVB.out⟩
          · injection ho with ho
            subst ho
            have d1 := hdep ⟨1, .data⟩ (by simp) rfl
            have g8 : (listed.setIfInBounds 2 true).getD 8 false = listed.getD 8 false := getD_set_ne _ (by decide)
            have g9 : (listed.setIfInBounds 2 true).getD 9 false = listed.getD 9 false := getD_set_ne _ (by decide)
            have g12 : (listed.setIfInBounds 2 true).getD 12 false = listed.getD 12 false := getD_set_ne _ (by decide)
            obtain rfl := f1 d1
            have HVB := Lib.hid hvb
            clear hi hdep hvb
            refine vf_wpOpP_of rfl rfl ?_
            go_simp
            exact hK _ _ ⟨_, _, (.pointer (some ⟨g, m, none⟩)), _, _, _, _, _, _, _, _, _, rfl, by simpa using hsz, fun h => by first | exact f0 (vf_listed_ne (by decide) h) | rfl, fun h => by first | exact f1 (vf_listed_ne (by decide) h) | rfl, fun _ => rfl, fun h => by first | exact f3 (vf_listed_ne (by decide) h) | rfl, fun h => by first | exact f4 (vf_listed_ne (by decide) h) | rfl, fun h => by first | exact f5 (vf_listed_ne (by decide) h) | rfl, fun h => by first | exact f6 (vf_listed_ne (by decide) h) | rfl, fun h => by first | exact f7 (vf_listed_ne (by decide) h) | rfl, fun h => by first | exact f10 (vf_listed_ne (by decide) h) | rfl, fun h => by first | exact f11 (vf_listed_ne (by decide) h) | rfl, fun _ => vf_listed_keep d1, fun h => vf_listed_keep (o3 (vf_listed_ne (by decide) h)), fun h => vf_listed_keep (o4 (vf_listed_ne (by decide) h)), fun h => vf_listed_keep (o6 (vf_listed_ne (by decide) h)), fun h => vf_listed_keep (o7 (vf_listed_ne (by decide) h)), fun h => vf_listed_keep (o8 (vf_listed_ne (by decide) h)), fun h => by have q := o9 (vf_listed_ne (by decide) h); exact ⟨vf_listed_keep q.1, vf_listed_keep q.2⟩, fun h => vf_listed_keep (o10 (vf_listed_ne (by decide) h)), fun h => vf_listed_keep (o11 (vf_listed_ne (by decide) h)), fun h => by have q := o12 (vf_listed_ne (by decide) h); exact ⟨vf_listed_keep q.1, vf_listed_keep q.2⟩, by rw [g8, g9, g12]; exact HVB.out⟩
          · injection ho with ho
            subst ho
            have d2 := hdep ⟨2, .data⟩ (by simp) rfl
            have g8 : (listed.setIfInBounds 3 true).getD 8 false = listed.getD 8 false := getD_set_ne _ (by decide)
            have g9 : (listed.setIfInBounds 3 true).getD 9 false = listed.getD 9 false := getD_set_ne _ (by decide)
            have g12 : (listed.setIfInBounds 3 true).getD 12 false = listed.getD 12 false := getD_set_ne _ (by decide)
            obtain rfl := f2 d2
            have HVB := Lib.hid hvb
            clear hi hdep hvb
            refine vf_wpOpP_of rfl rfl ?_
            go_simp
            exact hK _ _ ⟨_, _, _, (.pointer (some ⟨g, m, none⟩)), _, _, _, _, _, _, _, _, rfl, by simpa using hsz, fun h => by first | exact f0 (vf_listed_ne (by decide) h) | rfl, fun h => by first | exact f1 (vf_listed_ne (by decide) h) | rfl, fun h => by first | exact f2 (vf_listed_ne (by decide) h) | rfl, fun _ => rfl, fun h => by first | exact f4 (vf_listed_ne (by decide) h) | rfl, fun h => by first | exact f5 (vf_listed_ne (by decide) h) | rfl, fun h => by first | exact f6 (vf_listed_ne (by decide) h) | rfl, fun h => by first | exact f7 (vf_listed_ne (by decide) h) | rfl, fun h => by first | exact f10 (vf_listed_ne (by decide) h) | rfl, fun h => by first | exact f11 (vf_listed_ne (by decide) h) | rfl, fun h => vf_listed_keep (o2 (vf_listed_ne (by decide) h)), fun _ => vf_listed_keep d2, fun h => vf_listed_keep (o4 (vf_listed_ne (by decide) h)), fun h => vf_listed_keep (o6 (vf_listed_ne (by decide) h)), fun h => vf_listed_keep (o7 (vf_listed_ne (by decide) h)), fun h => vf_listed_keep (o8 (vf_listed_ne (by decide) h)), fun h => by have q := o9 (vf_listed_ne (by decide) h); exact ⟨vf_listed_keep q.1, vf_listed_keep q.2⟩, fun h => vf_listed_keep (o10 (vf_listed_ne (by decide) h)), fun h => vf_listed_keep (o11 (vf_listed_ne (by decide) h)), fun h => by have q := o12 (vf_listed_ne (by decide) h); exact ⟨vf_listed_keep q.1, vf_listed_keep q.2⟩, by rw [g8, g9, g12]; exact HVB.out⟩
          · injection ho with ho
            subst ho
            have d3 := hdep ⟨3, .data⟩ (by simp) rfl
            have g8 : (listed.setIfInBounds 4 true).getD 8 false = listed.getD 8 false := getD_set_ne _ (by decide)
            have g9 : (listed.setIfInBounds 4 true).getD 9 false = listed.getD 9 false := getD_set_ne _ (by decide)
            have g12 : (listed.setIfInBounds 4 true).getD 12 false = listed.getD 12 false := getD_set_ne _ (by decide)
            obtain rfl := f3 d3
            have n12 : listed.getD 12 false = false := by
              cases h : listed.getD 12 false with
              | false => rfl
              | true => have q := (o9 (o12 h).1).1; rw [hno] at q; cases q
            rw [n12] at hvb
            have k4 : w'.cell? ⟨g, m, none⟩ = some (.slice ua rl uc) := cell_heapY (hvb.box rfl) HCQ.out
            have HVB := Lib.hid hvb
            clear hi hdep hvb
            refine vf_wpOpP_of rfl rfl ?_
            go_simp
            exact hK _ _ ⟨_, _, _, _, (.slice ua rl uc), _, _, _, _, _, _, _, rfl, by simpa using hsz, fun h => by first | exact f0 (vf_listed_ne (by decide) h) | rfl, fun h => by first | exact f1 (vf_listed_ne (by decide) h) | rfl, fun h => by first | exact f2 (vf_listed_ne (by decide) h) | rfl, fun h => by first | exact f3 (vf_listed_ne (by decide) h) | rfl, fun _ => rfl, fun h => by first | exact f5 (vf_listed_ne (by decide) h) | rfl, fun h => by first | exact f6 (vf_listed_ne (by decide) h) | rfl, fun h => by first | exact f7 (vf_listed_ne (by decide) h) | rfl, fun h => by first | exact f10 (vf_listed_ne (by decide) h) | rfl, fun h => by first | exact f11 (vf_listed_ne (by decide) h) | rfl, fun h => vf_listed_keep (o2 (vf_listed_ne (by decide) h)), fun h => vf_listed_keep (o3 (vf_listed_ne (by decide) h)), fun _ => vf_listed_keep d3, fun h => vf_listed_keep (o6 (vf_listed_ne (by decide) h)), fun h => vf_listed_keep (o7 (vf_listed_ne (by decide) h)), fun h => vf_listed_keep (o8 (vf_listed_ne (by decide) h)), fun h => by have q := o9 (vf_listed_ne (by decide) h); exact ⟨vf_listed_keep q.1, vf_listed_keep q.2⟩, fun h => vf_listed_keep (o10 (vf_listed_ne (by decide) h)), fun h => vf_listed_keep (o11 (vf_listed_ne (by decide) h)), fun h => by have q := o12 (vf_listed_ne (by decide) h); exact ⟨vf_listed_keep q.1, vf_listed_keep q.2⟩, by rw [g8, g9, g12, n12]; exact HVB.out⟩
          · injection ho with ho
            subst ho
            have g8 : (listed.setIfInBounds 5 true).getD 8 false = listed.getD 8 false := getD_set_ne _ (by decide)
            have g9 : (listed.setIfInBounds 5 true).getD 9 false = listed.getD 9 false := getD_set_ne _ (by decide)
            have g12 : (listed.setIfInBounds 5 true).getD 12 false = listed.getD 12 false := getD_set_ne _ (by decide)
            have HVB := Lib.hid hvb
            clear hi hdep hvb
            refine vf_wpOpP_of rfl rfl ?_
            go_simp
            exact hK _ _ ⟨_, _, _, _, _, (.pointer (some ⟨wr.heap.size, 3, none⟩)), _, _, _, _, _, _, rfl, by simpa using hsz, fun h => by first | exact f0 (vf_listed_ne (by decide) h) | rfl, fun h => by first | exact f1 (vf_listed_ne (by decide) h) | rfl, fun h => by first | exact f2 (vf_listed_ne (by decide) h) | rfl, fun h => by first | exact f3 (vf_listed_ne (by decide) h) | rfl, fun h => by first | exact f4 (vf_listed_ne (by decide) h) | rfl, fun _ => rfl, fun h => by first | exact f6 (vf_listed_ne (by decide) h) | rfl, fun h => by first | exact f7 (vf_listed_ne (by decide) h) | rfl, fun h => by first | exact f10 (vf_listed_ne (by decide) h) | rfl, fun h => by first | exact f11 (vf_listed_ne (by decide) h) | rfl, fun h => vf_listed_keep (o2 (vf_listed_ne (by decide) h)), fun h => vf_listed_keep (o3 (vf_listed_ne (by decide) h)), fun h => vf_listed_keep (o4 (vf_listed_ne (by decide) h)), fun h => vf_listed_keep (o6 (vf_listed_ne (by decide) h)), fun h => vf_listed_keep (o7 (vf_listed_ne (by decide) h)), fun h => vf_listed_keep (o8 (vf_listed_ne (by decide) h)), fun h => by have q := o9 (vf_listed_ne (by decide) h); exact ⟨vf_listed_keep q.1, vf_listed_keep q.2⟩, fun h => vf_listed_keep (o10 (vf_listed_ne (by decide) h)), fun h => vf_listed_keep (o11 (vf_listed_ne (by decide) h)), fun h => by have q := o12 (vf_listed_ne (by decide) h); exact ⟨vf_listed_keep q.1, vf_listed_keep q.2⟩, by rw [g8, g9, g12]; exact HVB.out⟩
          · injection ho with ho
            subst ho
            have d5 := hdep ⟨5, .data⟩ (by simp) rfl
            have g8 : (listed.setIfInBounds 6 true).getD 8 false = listed.getD 8 false := getD_set_ne _ (by decide)
            have g9 : (listed.setIfInBounds 6 true).getD 9 false = listed.getD 9 false := getD_set_ne _ (by decide)
            have g12 : (listed.setIfInBounds 6 true).getD 12 false = listed.getD 12 false := getD_set_ne _ (by decide)
            obtain rfl := f5 d5
            have n9 : listed.getD 9 false = false := by
              cases h : listed.getD 9 false with
              | false => rfl
              | true => have q := (o7 (o8 (o9 h).2)); rw [hno] at q; cases q
            rw [n9] at hvb
            have k6 := keepB (hvb.pre rfl).2.1 dt3
            have HVB := Lib.hid hvb
            clear hi hdep hvb
            refine vf_wpOpP_of rfl rfl ?_
            go_simp
            exact hK _ _ ⟨_, _, _, _, _, _, (.int .i64 x3), _, _, _, _, _, rfl, by simpa using hsz, fun h => by first | exact f0 (vf_listed_ne (by decide) h) | rfl, fun h => by first | exact f1 (vf_listed_ne (by decide) h) | rfl, fun h => by first | exact f2 (vf_listed_ne (by decide) h) | rfl, fun h => by first | exact f3 (vf_listed_ne (by decide) h) | rfl, fun h => by first | exact f4 (vf_listed_ne (by decide) h) | rfl, fun h => by first | exact f5 (vf_listed_ne (by decide) h) | rfl, fun _ => rfl, fun h => by first | exact f7 (vf_listed_ne (by decide) h) | rfl, fun h => by first | exact f10 (vf_listed_ne (by decide) h) | rfl, fun h => by first | exact f11 (vf_listed_ne (by decide) h) | rfl, fun h => vf_listed_keep (o2 (vf_listed_ne (by decide) h)), fun h => vf_listed_keep (o3 (vf_listed_ne (by decide) h)), fun h => vf_listed_keep (o4 (vf_listed_ne (by decide) h)), fun _ => vf_listed_keep d5, fun h => vf_listed_keep (o7 (vf_listed_ne (by decide) h)), fun h => vf_listed_keep (o8 (vf_listed_ne (by decide) h)), fun h => by have q := o9 (vf_listed_ne (by decide) h); exact ⟨vf_listed_keep q.1, vf_listed_keep q.2⟩, fun h => vf_listed_keep (o10 (vf_listed_ne (by decide) h)), fun h => vf_listed_keep (o11 (vf_listed_ne (by decide) h)), fun h => by have q := o12 (vf_listed_ne (by decide) h); exact ⟨vf_listed_keep q.1, vf_listed_keep q.2⟩, by rw [g8, g9, g12, n9]; exact HVB.out⟩
          · injection ho with ho
            subst ho
            have d6 := hdep ⟨6, .data⟩ (by simp) rfl
            have g8 : (listed.setIfInBounds 7 true).getD 8 false = listed.getD 8 false := getD_set_ne _ (by decide)
            have g9 : (listed.setIfInBounds 7 true).getD 9 false = listed.getD 9 false := getD_set_ne _ (by decide)
            have g12 : (listed.setIfInBounds 7 true).getD 12 false = listed.getD 12 false := getD_set_ne _ (by decide)
            obtain rfl := f6 d6
            obtain ⟨hwx, hix⟩ := HXW.out
            have HVB := Lib.hid hvb
            clear hi hdep hvb
            refine vf_wpOpP_of rfl rfl ?_
            go_simp
            exact hK _ _ ⟨_, _, _, _, _, _, _, (.int .i64 X), _, _, _, _, rfl, by simpa using hsz, fun h => by first | exact f0 (vf_listed_ne (by decide) h) | rfl, fun h => by first | exact f1 (vf_listed_ne (by decide) h) | rfl, fun h => by first | exact f2 (vf_listed_ne (by decide) h) | rfl, fun h => by first | exact f3 (vf_listed_ne (by decide) h) | rfl, fun h => by first | exact f4 (vf_listed_ne (by decide) h) | rfl, fun h => by first | exact f5 (vf_listed_ne (by decide) h) | rfl, fun h => by first | exact f6 (vf_listed_ne (by decide) h) | rfl, fun _ => rfl, fun h => by first | exact f10 (vf_listed_ne (by decide) h) | rfl, fun h => by first | exact f11 (vf_listed_ne (by decide) h) | rfl, fun h => vf_listed_keep (o2 (vf_listed_ne (by decide) h)), fun h => vf_listed_keep (o3 (vf_listed_ne (by decide) h)), fun h => vf_listed_keep (o4 (vf_listed_ne (by decide) h)), fun h => vf_listed_keep (o6 (vf_listed_ne (by decide) h)), fun _ => vf_listed_keep d6, fun h => vf_listed_keep (o8 (vf_listed_ne (by decide) h)), fun h => by have q := o9 (vf_listed_ne (by decide) h); exact ⟨vf_listed_keep q.1, vf_listed_keep q.2⟩, fun h => vf_listed_keep (o10 (vf_listed_ne (by decide) h)), fun h => vf_listed_keep (o11 (vf_listed_ne (by decide) h)), fun h => by have q := o12 (vf_listed_ne (by decide) h); exact ⟨vf_listed_keep q.1, vf_listed_keep q.2⟩, by rw [g8, g9, g12]; exact HVB.out⟩
          · injection ho with ho
            subst ho
            have d7 := hdep ⟨7, .data⟩ (by simp) rfl
            have g8 : (listed.setIfInBounds 8 true).getD 8 false = true := hself
            have g9 : (listed.setIfInBounds 8 true).getD 9 false = listed.getD 9 false := getD_set_ne _ (by decide)
            have g12 : (listed.setIfInBounds 8 true).getD 12 false = listed.getD 12 false := getD_set_ne _ (by decide)
            obtain rfl := f7 d7
            have n9 : listed.getD 9 false = false := by
              cases h : listed.getD 9 false with
              | false => rfl
              | true => have q := (o9 h).2; rw [hno] at q; cases q
            rw [n9, hno] at hvb
            have HVB := Lib.hid hvb
            clear hi hdep hvb
            refine vf_wpOpP_of rfl rfl ?_
            go_simp
            exact hK _ _ ⟨_, _, _, _, _, _, _, _, _, _, _, _, rfl, by simpa using hsz, fun h => by first | exact f0 (vf_listed_ne (by decide) h) | rfl, fun h => by first | exact f1 (vf_listed_ne (by decide) h) | rfl, fun h => by first | exact f2 (vf_listed_ne (by decide) h) | rfl, fun h => by first | exact f3 (vf_listed_ne (by decide) h) | rfl, fun h => by first | exact f4 (vf_listed_ne (by decide) h) | rfl, fun h => by first | exact f5 (vf_listed_ne (by decide) h) | rfl, fun h => by first | exact f6 (vf_listed_ne (by decide) h) | rfl, fun h => by first | exact f7 (vf_listed_ne (by decide) h) | rfl, fun h => by first | exact f10 (vf_listed_ne (by decide) h) | rfl, fun h => by first | exact f11 (vf_listed_ne (by decide) h) | rfl, fun h => vf_listed_keep (o2 (vf_listed_ne (by decide) h)), fun h => vf_listed_keep (o3 (vf_listed_ne (by decide) h)), fun h => vf_listed_keep (o4 (vf_listed_ne (by decide) h)), fun h => vf_listed_keep (o6 (vf_listed_ne (by decide) h)), fun h => vf_listed_keep (o7 (vf_listed_ne (by decide) h)), fun _ => vf_listed_keep d7, fun h => by have q := o9 (vf_listed_ne (by decide) h); exact ⟨vf_listed_keep q.1, vf_listed_keep q.2⟩, fun h => vf_listed_keep (o10 (vf_listed_ne (by decide) h)), fun h => vf_listed_keep (o11 (vf_listed_ne (by decide) h)), fun h => by have q := o12 (vf_listed_ne (by decide) h); exact ⟨vf_listed_keep q.1, vf_listed_keep q.2⟩, by rw [g8, g9, g12, n9]; exact HVB.out.built⟩
          · injection ho with ho
            subst ho
            have d4 := hdep ⟨4, .data⟩ (by simp) rfl
            have d8 := hdep ⟨8, .data⟩ (by simp) rfl
            have g8 : (listed.setIfInBounds 9 true).getD 8 false = listed.getD 8 false := getD_set_ne _ (by decide)
            have g9 : (listed.setIfInBounds 9 true).getD 9 false = true := hself
            have g12 : (listed.setIfInBounds 9 true).getD 12 false = listed.getD 12 false := getD_set_ne _ (by decide)
            obtain rfl := f4 d4
            have n12 : listed.getD 12 false = false := by
              cases h : listed.getD 12 false with
              | false => rfl
              | true => have q := (o12 h).1; rw [hno] at q; cases q
            rw [n12, d8, hno] at hvb
            obtain ⟨v10, w10, hrun10, hvb10⟩ := hvb.appd (by rw [HRL.out]; exact HLS.out) (by have := HB9.out.size; omega) (by rw [HRL.out]; omega) 22
            refine vf_wpOpP_of rfl rfl ?_
            refine wp_append_run (.tmp 71) (.tmp 75) 22 22 rfl _ _ rfl rfl hrun10 ?_
            exact hK _ _ ⟨_, _, _, _, _, _, _, _, _, (v10), _, _, rfl, by simpa using hsz, fun h => by first | exact f0 (vf_listed_ne (by decide) h) | rfl, fun h => by first | exact f1 (vf_listed_ne (by decide) h) | rfl, fun h => by first | exact f2 (vf_listed_ne (by decide) h) | rfl, fun h => by first | exact f3 (vf_listed_ne (by decide) h) | rfl, fun h => by first | exact f4 (vf_listed_ne (by decide) h) | rfl, fun h => by first | exact f5 (vf_listed_ne (by decide) h) | rfl, fun h => by first | exact f6 (vf_listed_ne (by decide) h) | rfl, fun h => by first | exact f7 (vf_listed_ne (by decide) h) | rfl, fun h => by first | exact f10 (vf_listed_ne (by decide) h) | rfl, fun h => by first | exact f11 (vf_listed_ne (by decide) h) | rfl, fun h => vf_listed_keep (o2 (vf_listed_ne (by decide) h)), fun h => vf_listed_keep (o3 (vf_listed_ne (by decide) h)), fun h => vf_listed_keep (o4 (vf_listed_ne (by decide) h)), fun h => vf_listed_keep (o6 (vf_listed_ne (by decide) h)), fun h => vf_listed_keep (o7 (vf_listed_ne (by decide) h)), fun h => vf_listed_keep (o8 (vf_listed_ne (by decide) h)), fun _ => ⟨vf_listed_keep d4, vf_listed_keep d8⟩, fun h => vf_listed_keep (o10 (vf_listed_ne (by decide) h)), fun h => vf_listed_keep (o11 (vf_listed_ne (by decide) h)), fun h => by have q := o12 (vf_listed_ne (by decide) h); exact ⟨vf_listed_keep q.1, vf_listed_keep q.2⟩, by rw [g8, g9, g12, n12, d8]; exact hvb10⟩
          · injection ho with ho
            subst ho
            have d0 := hdep ⟨0, .data⟩ (by simp) rfl
            have g8 : (listed.setIfInBounds 10 true).getD 8 false = listed.getD 8 false := getD_set_ne _ (by decide)
            have g9 : (listed.setIfInBounds 10 true).getD 9 false = listed.getD 9 false := getD_set_ne _ (by decide)
            have g12 : (listed.setIfInBounds 10 true).getD 12 false = listed.getD 12 false := getD_set_ne _ (by decide)
            obtain rfl := f0 d0
            have HVB := Lib.hid hvb
            clear hi hdep hvb
            refine vf_wpOpP_of rfl rfl ?_
            go_simp
            exact hK _ _ ⟨_, _, _, _, _, _, _, _, _, _, (.pointer (some ⟨g, m, none⟩)), _, rfl, by simpa using hsz, fun h => by first | exact f0 (vf_listed_ne (by decide) h) | rfl, fun h => by first | exact f1 (vf_listed_ne (by decide) h) | rfl, fun h => by first | exact f2 (vf_listed_ne (by decide) h) | rfl, fun h => by first | exact f3 (vf_listed_ne (by decide) h) | rfl, fun h => by first | exact f4 (vf_listed_ne (by decide) h) | rfl, fun h => by first | exact f5 (vf_listed_ne (by decide) h) | rfl, fun h => by first | exact f6 (vf_listed_ne (by decide) h) | rfl, fun h => by first | exact f7 (vf_listed_ne (by decide) h) | rfl, fun _ => rfl, fun h => by first | exact f11 (vf_listed_ne (by decide) h) | rfl, fun h => vf_listed_keep (o2 (vf_listed_ne (by decide) h)), fun h => vf_listed_keep (o3 (vf_listed_ne (by decide) h)), fun h => vf_listed_keep (o4 (vf_listed_ne (by decide) h)), fun h => vf_listed_keep (o6 (vf_listed_ne (by decide) h)), fun h => vf_listed_keep (o7 (vf_listed_ne (by decide) h)), fun h => vf_listed_keep (o8 (vf_listed_ne (by decide) h)), fun h => by have q := o9 (vf_listed_ne (by decide) h); exact ⟨vf_listed_keep q.1, vf_listed_keep q.2⟩, fun _ => vf_listed_keep d0, fun h => vf_listed_keep (o11 (vf_listed_ne (by decide) h)), fun h => by have q := o12 (vf_listed_ne (by decide) h); exact ⟨vf_listed_keep q.1, vf_listed_keep q.2⟩, by rw [g8, g9, g12]; exact HVB.out⟩
          · injection ho with ho
            subst ho
            have d10 := hdep ⟨10, .data⟩ (by simp) rfl
            have g8 : (listed.setIfInBounds 11 true).getD 8 false = listed.getD 8 false := getD_set_ne _ (by decide)
            have g9 : (listed.setIfInBounds 11 true).getD 9 false = listed.getD 9 false := getD_set_ne _ (by decide)
            have g12 : (listed.setIfInBounds 11 true).getD 12 false = listed.getD 12 false := getD_set_ne _ (by decide)
            obtain rfl := f10 d10
            have HVB := Lib.hid hvb
            clear hi hdep hvb
            refine vf_wpOpP_of rfl rfl ?_
            go_simp
            exact hK _ _ ⟨_, _, _, _, _, _, _, _, _, _, _, (.pointer (some ⟨g, m, none⟩)), rfl, by simpa using hsz, fun h => by first | exact f0 (vf_listed_ne (by decide) h) | rfl, fun h => by first | exact f1 (vf_listed_ne (by decide) h) | rfl, fun h => by first | exact f2 (vf_listed_ne (by decide) h) | rfl, fun h => by first | exact f3 (vf_listed_ne (by decide) h) | rfl, fun h => by first | exact f4 (vf_listed_ne (by decide) h) | rfl, fun h => by first | exact f5 (vf_listed_ne (by decide) h) | rfl, fun h => by first | exact f6 (vf_listed_ne (by decide) h) | rfl, fun h => by first | exact f7 (vf_listed_ne (by decide) h) | rfl, fun h => by first | exact f10 (vf_listed_ne (by decide) h) | rfl, fun _ => rfl, fun h => vf_listed_keep (o2 (vf_listed_ne (by decide) h)), fun h => vf_listed_keep (o3 (vf_listed_ne (by decide) h)), fun h => vf_listed_keep (o4 (vf_listed_ne (by decide) h)), fun h => vf_listed_keep (o6 (vf_listed_ne (by decide) h)), fun h => vf_listed_keep (o7 (vf_listed_ne (by decide) h)), fun h => vf_listed_keep (o8 (vf_listed_ne (by decide) h)), fun h => by have q := o9 (vf_listed_ne (by decide) h); exact ⟨vf_listed_keep q.1, vf_listed_keep q.2⟩, fun h => vf_listed_keep (o10 (vf_listed_ne (by decide) h)), fun _ => vf_listed_keep d10, fun h => by have q := o12 (vf_listed_ne (by decide) h); exact ⟨vf_listed_keep q.1, vf_listed_keep q.2⟩, by rw [g8, g9, g12]; exact HVB.out⟩
          · injection ho with ho
            subst ho
            have d9 := hdep ⟨9, .data⟩ (by simp) rfl
            have d11 := hdep ⟨11, .data⟩ (by simp) rfl
            have g8 : (listed.setIfInBounds 12 true).getD 8 false = listed.getD 8 false := getD_set_ne _ (by decide)
            have g9 : (listed.setIfInBounds 12 true).getD 9 false = listed.getD 9 false := getD_set_ne _ (by decide)
            have g12 : (listed.setIfInBounds 12 true).getD 12 false = true := hself
            obtain rfl := f11 d11
            have d8 := (o9 d9).2
            rw [d9, d8, hno] at hvb
            obtain ⟨na, nc, rfl⟩ := own_sl (hvb.app rfl rfl).2.1
            have k12 : w'.cell? ⟨g, m, none⟩ = some (.slice ua rl uc) := cell_heapY (hvb.box rfl) HCQ.out
            have kf : w'.frozen? ⟨g, m, none⟩ = false := frozen_of_row w' _ _ _ _ (hvb.box rfl)
            have kz : g < w'.heap.size := (Array.getElem?_eq_some_iff.1 (hvb.box rfl)).1
            have HVB := Lib.hid hvb
            clear hi hdep hvb
            refine vf_wpOpP_of rfl rfl ?_
            go_simp
            exact hK _ _ ⟨_, _, _, _, _, _, _, _, _, _, _, _, rfl, by simpa using hsz, fun h => by first | exact f0 (vf_listed_ne (by decide) h) | rfl, fun h => by first | exact f1 (vf_listed_ne (by decide) h) | rfl, fun h => by first | exact f2 (vf_listed_ne (by decide) h) | rfl, fun h => by first | exact f3 (vf_listed_ne (by decide) h) | rfl, fun h => by first | exact f4 (vf_listed_ne (by decide) h) | rfl, fun h => by first | exact f5 (vf_listed_ne (by decide) h) | rfl, fun h => by first | exact f6 (vf_listed_ne (by decide) h) | rfl, fun h => by first | exact f7 (vf_listed_ne (by decide) h) | rfl, fun h => by first | exact f10 (vf_listed_ne (by decide) h) | rfl, fun h => by first | exact f11 (vf_listed_ne (by decide) h) | rfl, fun h => vf_listed_keep (o2 (vf_listed_ne (by decide) h)), fun h => vf_listed_keep (o3 (vf_listed_ne (by decide) h)), fun h => vf_listed_keep (o4 (vf_listed_ne (by decide) h)), fun h => vf_listed_keep (o6 (vf_listed_ne (by decide) h)), fun h => vf_listed_keep (o7 (vf_listed_ne (by decide) h)), fun h => vf_listed_keep (o8 (vf_listed_ne (by decide) h)), fun h => by have q := o9 (vf_listed_ne (by decide) h); exact ⟨vf_listed_keep q.1, vf_listed_keep q.2⟩, fun h => vf_listed_keep (o10 (vf_listed_ne (by decide) h)), fun h => vf_listed_keep (o11 (vf_listed_ne (by decide) h)), fun _ => ⟨vf_listed_keep d9, vf_listed_keep d11⟩, by rw [g8, g9, g12, d9, d8]; exact HVB.out.stored⟩
        case fin =>
          rintro listed a' w' ⟨t67, t68, t69, t70, t71, t72, t73, t74, t75, t76, t77, t78, rfl, hsz, f0, f1, f2, f3, f4, f5, f6, f7, f10, f11, o2, o3, o4, o6, o7, o8, o9, o10, o11, o12, hvb⟩ hr
          have hfull := vf_ready_full hsz hr (by kernel_rfl)
          obtain rfl := f0 (hfull 0 (by decide))
          obtain rfl := f1 (hfull 1 (by decide))
          obtain rfl := f2 (hfull 2 (by decide))
          obtain rfl := f3 (hfull 3 (by decide))
          obtain rfl := f4 (hfull 4 (by decide))
          obtain rfl := f5 (hfull 5 (by decide))
          obtain rfl := f6 (hfull 6 (by decide))
          obtain rfl := f7 (hfull 7 (by decide))
          obtain rfl := f10 (hfull 10 (by decide))
          obtain rfl := f11 (hfull 11 (by decide))
          rw [hfull 8 (by decide), hfull 9 (by decide), hfull 12 (by decide)] at hvb
          clear o2 o3 o4 o6 o7 o8 o9 o10 o11 o12 hfull hr hsz
          obtain ⟨v', hb', ho', hl', hz', e1, e2, e3, hf'⟩ := hvb.fin rfl
          have hst' := RkSt.more HVQ.out HST.out HCU.out hb' (by rw [HRL.out] at ho' ⊢; exact ho') hl' hz' hf'
          have hbb : Below w5.heap.size w5 w' := ⟨e1.trans HB9.out.os, e2.trans HB9.out.tape, e3.trans HB9.out.output, Nat.le_trans HB9.out.size hz', fun b hb => (hf' b (by have := HB9.out.size; omega) (by omega) (fun e => by have := (HLS.out.lt b e.symm).1; omega)).trans (HB9.out.block b hb)⟩
          have HFIN := Lib.hid (And.intro hst'.at_ hbb)
          clear hvb hb' ho' hl' hz' e1 e2 e3 hf' hst' hbb
          go_wp2
          go_roundw
          case rel => exact ⟨_, _, _, _, _, ⟨0 + 1, by omega, by go_num, ⟨_, by rw [HKK.out]; exact HFIN.out.1⟩, HFIN.out.2⟩, rfl, rfl, rfl, rfl, rfl⟩
          case measure => simp [intOf]; omega
      · obtain ⟨j, rfl⟩ : ∃ j, k = j + 1 := ⟨k - 1, by omega⟩
        obtain ⟨b', off', y0, y1, y2, y3, hE, -, -, hy, p0, p1, p2, p3⟩ := (HS5.out.below hbr).tdr (k := j) (by omega)
        cases hE
        replace p2 := keepB HB1.out p2
        have hk1 : (((j : Int) + 1) == 0) = false := by simp; omega
        have hk2 : ¬ (j : Int) + 1 = 0 := by omega
        have HWJ := Lib.hid (wzC (j : Int) (by omega))
        have hjz : (j : Int) < (n : Int) := by omega
        have hj0 : 0 ≤ (j : Int) := by omega
        clear p0 p1 p3 hbr
        by_cases hpp : y2 = x2
        · have HOLD := Lib.hid (rkT_old HQX.out (show newB Q (j + 1) = false by unfold newB; rw [HQX.out, Nat.add_sub_cancel, hy]; simp only; rw [hpp]; simp))
          have HNE := Lib.hid (rkT_ne (P := Q) (k := j + 1) (by omega) (by have := HN.out; omega))
          subst hpp
          obtain ⟨hwj, hij⟩ := HWJ.out
          clear hy
          go_quiet (fail)
          clear hwj hij
          go_upto_region 14 with fail
          generalize hW2 : World.drewN _ _ = W2
          have hb2 : Below W1.heap.size W1 W2 := by rw [← hW2]; exact bdrN brefl
          have hb02 : Below wr.heap.size wr W2 := bup HB1.out hb2
          have z2 := hb02.size
          have HTB2 := Lib.hid ((hb2.block _ z1W).trans HBX.out)
          have HOW2 := Lib.hid (ownsRow_belowZ HOW.out hb02)
          have HRK2 := Lib.hid (HRK.out.below hb02)
          have HBR2 := Lib.hid (bup HBR.out hb02)
          have zW2 : wr.heap.size < W2.heap.size := by have := hb2.size; omega
          clear hW2 hb2 hb02 d2
          obtain ⟨w9, hw9⟩ : ∃ w9, w9 = W2 := ⟨W2, rfl⟩
          subst hw9
          have HTB := Lib.hid HTB2.out
          have HB9 := Lib.hid HBR2.out
          rcases HRK2.out.2.2 with hus | ⟨vs, u, Rs, r, e1, e2, hst⟩
          · exfalso
            have h1 := HRK2.out.2.1.1
            rw [hus] at h1
            exact HNE.out (List.eq_nil_of_length_eq_zero h1.symm)
          obtain ⟨q, hqv⟩ : ∃ q, vs.length = q := ⟨_, rfl⟩
          have hmq : m = q + 1 := by rw [← HM.out, e1]; simp; omega
          subst hmq
          have hkk : rkT Q ((j + 1) + 1) = Rs ++ [r ++ [X]] := by rw [HOLD.out, e2, addLast_snoc, HXX.out]
          have hvq := hqv
          obtain ⟨g, rfl⟩ := hst.lit
          clear e1 e2 hqv HTB2 HOW2 HRK2 HBR2 HOLD HNE
          obtain ⟨cur, hcur, hcq, hbg⟩ := hst.cellq hvq
          have hlst := hst.last
          obtain ⟨rl, hrl⟩ : ∃ rl, r.length = rl := ⟨_, rfl⟩
          have hrl60 : rl ≤ 1000 := by
            have h1 := (KR.out ((j + 1) + 1) (by have := HN.out; omega)).l (r ++ [X]) (by rw [hkk]; simp)
            rw [List.length_append, hrl] at h1; omega
          rw [hrl] at hlst
          obtain ⟨ua, uc, rfl⟩ := own_sl hlst
          have hgz : g < w9.heap.size := (Array.getElem?_eq_some_iff.1 hcur).1
          have htz : wr.heap.size < w9.heap.size := (Array.getElem?_eq_some_iff.1 HTB.out).1
          have hgt : ¬ g = wr.heap.size := by
            intro e
            have h1 := hcur
            rw [e, HTB.out] at h1
            simp at h1
          have dt3 : w9.cell? ⟨wr.heap.size, 3, none⟩ = some (.int .i64 x3) := cell_heapY HTB.out rfl
          have HST := Lib.hid hst
          have HCU := Lib.hid hcur
          have HCQ := Lib.hid hcq
          have HVQ := Lib.hid hvq
          have HKK := Lib.hid hkk
          have HLS := Lib.hid hlst
          have HRL := Lib.hid hrl
          have HWQ := Lib.hid (wzC (q : Int) (by omega))
          have hq1 : (q : Int) < ((q + 1 : Nat) : Int) := by omega
          have hq2 : (q : Int) < (q : Int) + 1 := by omega
          have hq0 : 0 ≤ (q : Int) := by omega
          clear hst hcur hcq hvq hkk hlst hrl
          obtain ⟨hwq, hiq⟩ := HWQ.out
          go_upto_region 15 with fail
          clear hwq hiq
          refine wp_region_any (by kernel_rfl) ?_
          change wpAny _ _ _ _ _ _ _ (World.drew _)
          refine vf_anyP_inv (J := fun listed a' w' => ∃ t67 t68 t69 t70 t71 t72 t73 t74 t75 t76 t77 t78 : Value, a' = { tmps := #[Value.slice (some ⟨bb, off, none⟩) n oc4, Value.int IntKind.i64 am, Value.int IntKind.i64 most, undef, undef, Value.pointer (some ⟨w.heap.size, 0, none⟩), Value.pointer (some ⟨w.heap.size + 1, 0, none⟩), Value.int IntKind.i64 0, Value.int IntKind.i64 0, Value.slice (some ⟨g, 0, none⟩) (q + 1) rc, Value.int IntKind.i64 ↑(j + 1), Value.pointer (some ⟨wr.heap.size, 0, none⟩), Value.pointer (some ⟨g, q, none⟩), undef, undef, undef, undef, Value.slice la ln lc, Value.int IntKind.i64 0, Value.int IntKind.i64 0, Value.bool false, undef, undef, Value.int IntKind.i64 am, Value.bool true, Value.bool false, Value.bool false, Value.int IntKind.i64 most, Value.bool true, Value.bool false, Value.bool false, undef, Value.slice la ln lc, Value.slice oa3 S.length oc3, Value.func (Fn.func 205) #[] #[Value.pointer (some ⟨w.heap.size, 0, none⟩)], Value.slice (some ⟨bb, off, none⟩) n oc4, Value.slice (some ⟨bb, off, none⟩) n oc4, Value.tuple #[], Value.slice (some ⟨bb, off, none⟩) n oc4, Value.int IntKind.i64 ↑n, Value.int IntKind.i64 ↑(j + 1), Value.bool true, Value.int IntKind.i64 ↑(j + 1), Value.pointer (some ⟨bb, off + (j + 1) * 4, none⟩), Value.agg #[Value.int IntKind.i64 x0, Value.int IntKind.i64 x1, Value.int IntKind.i64 y2, Value.int IntKind.i64 x3], Value.int IntKind.i64 ↑(j + 1), Value.bool false, Value.bool false, Value.slice (some ⟨bb, off, none⟩) n oc4, Value.int IntKind.i64 ↑(j + 1), Value.int IntKind.i64 ↑j, Value.pointer (some ⟨bb, off + j * 4, none⟩), Value.pointer (some ⟨bb, off + j * 4 + 2, none⟩), Value.int IntKind.i64 y2, Value.pointer (some ⟨wr.heap.size, 2, none⟩), Value.int IntKind.i64 y2, Value.bool false, Value.bool false, u58, u59, u60, u61, Value.slice (some ⟨g, 0, none⟩) (q + 1) rc, Value.slice (some ⟨g, 0, none⟩) (q + 1) rc, Value.int IntKind.i64 (↑q + 1), Value.int IntKind.i64 ↑q, Value.pointer (some ⟨g, q, none⟩), t67, t68, t69, t70, t71, t72, t73, t74, t75, t76, t77, t78, u79, undef, undef, undef, undef, undef, undef, undef, undef, undef, undef, undef, undef, undef, undef, undef, undef, undef, undef, undef, undef, undef, undef, undef, undef, undef, undef, undef, undef, undef, undef, undef, undef, undef, undef, undef, undef, undef, undef, undef, undef, undef, undef, undef, undef, undef], defers := [] } ∧ listed.size = 13 ∧ (listed.getD 0 false = true → t67 = .pointer (some ⟨g, q, none⟩)) ∧ (listed.getD 1 false = true → t68 = .pointer (some ⟨g, q, none⟩)) ∧ (listed.getD 2 false = true → t69 = .pointer (some ⟨g, q, none⟩)) ∧ (listed.getD 3 false = true → t70 = .pointer (some ⟨g, q, none⟩)) ∧ (listed.getD 4 false = true → t71 = .slice ua rl uc) ∧ (listed.getD 5 false = true → t72 = .pointer (some ⟨wr.heap.size, 3, none⟩)) ∧ (listed.getD 6 false = true → t73 = .int .i64 x3) ∧ (listed.getD 7 false = true → t74 = .int .i64 X) ∧ (listed.getD 10 false = true → t77 = .pointer (some ⟨g, q, none⟩)) ∧ (listed.getD 11 false = true → t78 = .pointer (some ⟨g, q, none⟩)) ∧ (listed.getD 2 false = true → listed.getD 1 false = true) ∧ (listed.getD 3 false = true → listed.getD 2 false = true) ∧ (listed.getD 4 false = true → listed.getD 3 false = true) ∧ (listed.getD 6 false = true → listed.getD 5 false = true) ∧ (listed.getD 7 false = true → listed.getD 6 false = true) ∧ (listed.getD 8 false = true → listed.getD 7 false = true) ∧ (listed.getD 9 false = true → listed.getD 4 false = true ∧ listed.getD 8 false = true) ∧ (listed.getD 10 false = true → listed.getD 0 false = true) ∧ (listed.getD 11 false = true → listed.getD 10 false = true) ∧ (listed.getD 12 false = true → listed.getD 9 false = true ∧ listed.getD 11 false = true) ∧ D15 w9 g q cur w5.heap.size (.slice ua rl uc) r X (listed.getD 8 false) (listed.getD 9 false) (listed.getD 12 false) t75 t76 w') ?step ?fin _ _ _ _ ⟨_, _, _, _, _, _, _, _, _, _, _, _, rfl, rfl, fun h => by simp at h, fun h => by simp at h, fun h => by simp at h, fun h => by simp at h, fun h => by simp at h, fun h => by simp at h, fun h => by simp at h, fun h => by simp at h, fun h => by simp at h, fun h => by simp at h, fun h => by simp at h, fun h => by simp at h, fun h => by simp at h, fun h => by simp at h, fun h => by simp at h, fun h => by simp at h, fun h => by simp at h, fun h => by simp at h, fun h => by simp at h, fun h => by simp at h, D15.start HCU.out (bdr brefl)⟩ (by decide)
          case step =>
            rintro listed a' w' ⟨t67, t68, t69, t70, t71, t72, t73, t74, t75, t76, t77, t78, rfl, hsz, f0, f1, f2, f3, f4, f5, f6, f7, f10, f11, o2, o3, o4, o6, o7, o8, o9, o10, o11, o12, hvb⟩ i hi K hK
            obtain ⟨hni, o, ho, hdep⟩ := mem_ready.1 hi
            have hin : i < 13 := (Array.getElem?_eq_some_iff.1 ho).1
            have hself := vf_listed_self hni
            have hno := vf_listed_no hni
            rcases (show i = 0 ∨ i = 1 ∨ i = 2 ∨ i = 3 ∨ i = 4 ∨ i = 5 ∨ i = 6 ∨ i = 7 ∨ i = 8 ∨ i = 9 ∨ i = 10 ∨ i = 11 ∨ i = 12 by omega) with rfl | rfl | rfl | rfl | rfl | rfl | rfl | rfl | rfl | rfl | rfl | rfl | rfl
            · injection ho with ho
              subst ho
              have g8 : (listed.setIfInBounds 0 true).getD 8 false = listed.getD 8 false := getD_set_ne _ (by decide)
              have g9 : (listed.setIfInBounds 0 true).getD 9 false = listed.getD 9 false := getD_set_ne _ (by decide)
              have g12 : (listed.setIfInBounds 0 true).getD 12 false = listed.getD 12 false := getD_set_ne _ (by decide)
              have HVB := Lib.hid hvb
              clear hi hdep hvb
              refine vf_wpOpP_of rfl rfl ?_
              go_simp
              exact hK _ _ ⟨(.pointer (some ⟨g, q, none⟩)), _, _, _, _, _, _, _, _, _, _, _, rfl, by simpa using hsz, fun _ => rfl, fun h => by first | exact f1 (vf_listed_ne (by decide) h) | rfl, fun h => by first | exact f2 (vf_listed_ne (by decide) h) | rfl, fun h => by first | exact f3 (vf_listed_ne (by decide) h) | rfl, fun h => by first | exact f4 (vf_listed_ne (by decide) h) | rfl, fun h => by first | exact f5 (vf_listed_ne (by decide) h) | rfl, fun h => by first | exact f6 (vf_listed_ne (by decide) h) | rfl, fun h => by first | exact f7 (vf_listed_ne (by decide) h) | rfl, fun h => by first | exact f10 (vf_listed_ne (by decide) h) | rfl, fun h => by first | exact f11 (vf_listed_ne (by decide) h) | rfl, fun h => vf_listed_keep (o2 (vf_listed_ne (by decide) h)), fun h => vf_listed_keep (o3 (vf_listed_ne (by decide) h)), fun h => vf_listed_keep (o4 (vf_listed_ne (by decide) h)), fun h => vf_listed_keep (o6 (vf_listed_ne (by decide) h)), fun h => vf_listed_keep (o7 (vf_listed_ne (by decide) h)), fun h => vf_listed_keep (o8 (vf_listed_ne (by decide) h)), fun h => by have q := o9 (vf_listed_ne (by decide) h); exact ⟨vf_listed_keep q.1, vf_listed_keep q.2⟩, fun h => vf_listed_keep (o10 (vf_listed_ne (by decide) h)), fun h => vf_listed_keep (o11 (vf_listed_ne (by decide) h)), fun h => by have q := o12 (vf_listed_ne (by decide) h); exact ⟨vf_listed_keep q.1, vf_listed_keep q.2⟩, by rw [g8, g9, g12]; exact HVB.out⟩
            · injection ho with ho
              subst ho
              have g8 : (listed.setIfInBounds 1 true).getD 8 false = listed.getD 8 false := getD_set_ne _ (by decide)
              have g9 : (listed.setIfInBounds 1 true).getD 9 false = listed.getD 9 false := getD_set_ne _ (by decide)
              have g12 : (listed.setIfInBounds 1 true).getD 12 false = listed.getD 12 false := getD_set_ne _ (by decide)
              have HVB := Lib.hid hvb
              clear hi hdep hvb
              refine vf_wpOpP_of rfl rfl ?_
              go_simp
              exact hK _ _ ⟨_, (.pointer (some ⟨g, q, none⟩)), _, _, _, _, _, _, _, _, _, _, rfl, by simpa using hsz, fun h => by first | exact f0 (vf_listed_ne (by decide) h) | rfl, fun _ => rfl, fun h => by first | exact f2 (vf_listed_ne (by decide) h) | rfl, fun h => by first | exact f3 (vf_listed_ne (by decide) h) | rfl, fun h => by first | exact f4 (vf_listed_ne (by decide) h) | rfl, fun h => by first | exact f5 (vf_listed_ne (by decide) h) | rfl, fun h => by first | exact f6 (vf_listed_ne (by decide) h) | rfl, fun h => by first | exact f7 (vf_listed_ne (by decide) h) | rfl, fun h => by first | exact f10 (vf_listed_ne (by decide) h) | rfl, fun h => by first | exact f11 (vf_listed_ne (by decide) h) | rfl, fun h => vf_listed_keep (o2 (vf_listed_ne (by decide) h)), fun h => vf_listed_keep (o3 (vf_listed_ne (by decide) h)), fun h => vf_listed_keep (o4 (vf_listed_ne (by decide) h)), fun h => vf_listed_keep (o6 (vf_listed_ne (by decide) h)), fun h => vf_listed_keep (o7 (vf_listed_ne (by decide) h)), fun h => vf_listed_keep (o8 (vf_listed_ne (by decide) h)), fun h => by have q := o9 (vf_listed_ne (by decide) h); exact ⟨vf_listed_keep q.1, vf_listed_keep q.2⟩, fun h => vf_listed_keep (o10 (vf_listed_ne (by decide) h)), fun h => vf_listed_keep (o11 (vf_listed_ne (by decide) h)), fun h => by have q := o12 (vf_listed_ne (by decide) h); exact ⟨vf_listed_keep q.1, vf_listed_keep q.2⟩, by rw [g8, g9, g12]; exact HVB.out⟩
            · injection ho with ho
              subst ho
              have d1 := hdep ⟨1, .data⟩ (by simp) rfl
              have g8 : (listed.setIfInBounds 2 true).getD 8 false = listed.getD 8 false := getD_set_ne _ (by decide)
              have g9 : (listed.setIfInBounds 2 true).getD 9 false = listed.getD 9 false := getD_set_ne _ (by decide)
              have g12 : (listed.setIfInBounds 2 true).getD 12 false = listed.getD 12 false := getD_set_ne _ (by decide)
              obtain rfl := f1 d1
              have HVB := Lib.hid hvb
              clear hi hdep hvb
              refine vf_wpOpP_of rfl rfl ?_
              go_simp
              exact hK _ _ ⟨_, _, (.pointer (some ⟨g, q, none⟩)), _, _, _, _, _, _, _, _, _, rfl, by simpa using hsz, fun h => by first | exact f0 (vf_listed_ne (by decide) h) | rfl, fun h => by first | exact f1 (vf_listed_ne (by decide) h) | rfl, fun _ => rfl, fun h => by first | exact f3 (vf_listed_ne (by decide) h) | rfl, fun h => by first | exact f4 (vf_listed_ne (by decide) h) | rfl, fun h => by first | exact f5 (vf_listed_ne (by decide) h) | rfl, fun h => by first | exact f6 (vf_listed_ne (by decide) h) | rfl, fun h => by first | exact f7 (vf_listed_ne (by decide) h) | rfl, fun h => by first | exact f10 (vf_listed_ne (by decide) h) | rfl, fun h => by first | exact f11 (vf_listed_ne (by decide) h) | rfl, fun _ => vf_listed_keep d1, fun h => vf_listed_keep (o3 (vf_listed_ne (by decide) h)), fun h => vf_listed_keep (o4 (vf_listed_ne (by decide) h)), fun h => vf_listed_keep (o6 (vf_listed_ne (by decide) h)), fun h => vf_listed_keep (o7 (vf_listed_ne (by decide) h)), fun h => vf_listed_keep (o8 (vf_listed_ne (by decide) h)), fun h => by have q := o9 (vf_listed_ne (by decide) h); exact ⟨vf_listed_keep q.1, vf_listed_keep q.2⟩, fun h => vf_listed_keep (o10 (vf_listed_ne (by decide) h)), fun h => vf_listed_keep (o11 (vf_listed_ne (by decide) h)), fun h => by have q := o12 (vf_listed_ne (by decide) h); exact ⟨vf_listed_keep q.1, vf_listed_keep q.2⟩, by rw [g8, g9, g12]; exact HVB.out⟩
            · injection ho with ho
              subst ho
              have d2 := hdep ⟨2, .data⟩ (by simp) rfl
              have g8 : (listed.setIfInBounds 3 true).getD 8 false = listed.getD 8 false := getD_set_ne _ (by decide)
              have g9 : (listed.setIfInBounds 3 true).getD 9 false = listed.getD 9 false := getD_set_ne _ (by decide)
              have g12 : (listed.setIfInBounds 3 true).getD 12 false = listed.getD 12 false := getD_set_ne _ (by decide)
              obtain rfl := f2 d2
              have HVB := Lib.hid hvb
              clear hi hdep hvb
              refine vf_wpOpP_of rfl rfl ?_
              go_simp
              exact hK _ _ ⟨_, _, _, (.pointer (some ⟨g, q, none⟩)), _, _, _, _, _, _, _, _, rfl, by simpa using hsz, fun h => by first | exact f0 (vf_listed_ne (by decide) h) | rfl, fun h => by first | exact f1 (vf_listed_ne (by decide) h) | rfl, fun h => by first | exact f2 (vf_listed_ne (by decide) h) | rfl, fun _ => rfl, fun h => by first | exact f4 (vf_listed_ne (by decide) h) | rfl, fun h => by first | exact f5 (vf_listed_ne (by decide) h) | rfl, fun h => by first | exact f6 (vf_listed_ne (by decide) h) | rfl, fun h => by first | exact f7 (vf_listed_ne (by decide) h) | rfl, fun h => by first | exact f10 (vf_listed_ne (by decide) h) | rfl, fun h => by first | exact f11 (vf_listed_ne (by decide) h) | rfl, fun h => vf_listed_keep (o2 (vf_listed_ne (by decide) h)), fun _ => vf_listed_keep d2, fun h => vf_listed_keep (o4 (vf_listed_ne (by decide) h)), fun h => vf_listed_keep (o6 (vf_listed_ne (by decide) h)), fun h => vf_listed_keep (o7 (vf_listed_ne (by decide) h)), fun h => vf_listed_keep (o8 (vf_listed_ne (by decide) h)), fun h => by have q := o9 (vf_listed_ne (by decide) h); exact ⟨vf_listed_keep q.1, vf_listed_keep q.2⟩, fun h => vf_listed_keep (o10 (vf_listed_ne (by decide) h)), fun h => vf_listed_keep (o11 (vf_listed_ne (by decide) h)), fun h => by have q := o12 (vf_listed_ne (by decide) h); exact ⟨vf_listed_keep q.1, vf_listed_keep q.2⟩, by rw [g8, g9, g12]; exact HVB.out⟩
            · injection ho with ho
              subst ho
              have d3 := hdep ⟨3, .data⟩ (by simp) rfl
              have g8 : (listed.setIfInBounds 4 true).getD 8 false = listed.getD 8 false := getD_set_ne _ (by decide)
              have g9 : (listed.setIfInBounds 4 true).getD 9 false = listed.getD 9 false := getD_set_ne _ (by decide)
              have g12 : (listed.setIfInBounds 4 true).getD 12 false = listed.getD 12 false := getD_set_ne _ (by decide)
              obtain rfl := f3 d3
              have n12 : listed.getD 12 false = false := by
                cases h : listed.getD 12 false with
                | false => rfl
                | true => have q := (o9 (o12 h).1).1; rw [hno] at q; cases q
              rw [n12] at hvb
              have k4 : w'.cell? ⟨g, q, none⟩ = some (.slice ua rl uc) := cell_heapY (hvb.box rfl) HCQ.out
              have HVB := Lib.hid hvb
              clear hi hdep hvb
              refine vf_wpOpP_of rfl rfl ?_
              go_simp
              exact hK _ _ ⟨_, _, _, _, (.slice ua rl uc), _, _, _, _, _, _, _, rfl, by simpa using hsz, fun h => by first | exact f0 (vf_listed_ne (by decide) h) | rfl, fun h => by first | exact f1 (vf_listed_ne (by decide) h) | rfl, fun h => by first | exact f2 (vf_listed_ne (by decide) h) | rfl, fun h => by first | exact f3 (vf_listed_ne (by decide) h) | rfl, fun _ => rfl, fun h => by first | exact f5 (vf_listed_ne (by decide) h) | rfl, fun h => by first | exact f6 (vf_listed_ne (by decide) h) | rfl, fun h => by first | exact f7 (vf_listed_ne (by decide) h) | rfl, fun h => by first | exact f10 (vf_listed_ne (by decide) h) | rfl, fun h => by first | exact f11 (vf_listed_ne (by decide) h) | rfl, fun h => vf_listed_keep (o2 (vf_listed_ne (by decide) h)), fun h => vf_listed_keep (o3 (vf_listed_ne (by decide) h)), fun _ => vf_listed_keep d3, fun h => vf_listed_keep (o6 (vf_listed_ne (by decide) h)), fun h => vf_listed_keep (o7 (vf_listed_ne (by decide) h)), fun h => vf_listed_keep (o8 (vf_listed_ne (by decide) h)), fun h => by have q := o9 (vf_listed_ne (by decide) h); exact ⟨vf_listed_keep q.1, vf_listed_keep q.2⟩, fun h => vf_listed_keep (o10 (vf_listed_ne (by decide) h)), fun h => vf_listed_keep (o11 (vf_listed_ne (by decide) h)), fun h => by have q := o12 (vf_listed_ne (by decide) h); exact ⟨vf_listed_keep q.1, vf_listed_keep q.2⟩, by rw [g8, g9, g12, n12]; exact HVB.out⟩
            · injection ho with ho
              subst ho
              have g8 : (listed.setIfInBounds 5 true).getD 8 false = listed.getD 8 false := getD_set_ne _ (by decide)
              have g9 : (listed.setIfInBounds 5 true).getD 9 false = listed.getD 9 false := getD_set_ne _ (by decide)
              have g12 : (listed.setIfInBounds 5 true).getD 12 false = listed.getD 12 false := getD_set_ne _ (by decide)
              have HVB := Lib.hid hvb
              clear hi hdep hvb
              refine vf_wpOpP_of rfl rfl ?_
              go_simp
              exact hK _ _ ⟨_, _, _, _, _, (.pointer (some ⟨wr.heap.size, 3, none⟩)), _, _, _, _, _, _, rfl, by simpa using hsz, fun h => by first | exact f0 (vf_listed_ne (by decide) h) | rfl, fun h => by first | exact f1 (vf_listed_ne (by decide) h) | rfl, fun h => by first | exact f2 (vf_listed_ne (by decide) h) | rfl, fun h => by first | exact f3 (vf_listed_ne (by decide) h) | rfl, fun h => by first | exact f4 (vf_listed_ne (by decide) h) | rfl, fun _ => rfl, fun h => by first | exact f6 (vf_listed_ne (by decide) h) | rfl, fun h => by first | exact f7 (vf_listed_ne (by decide) h) | rfl, fun h => by first | exact f10 (vf_listed_ne (by decide) h) | rfl, fun h => by first | exact f11 (vf_listed_ne (by decide) h) | rfl, fun h => vf_listed_keep (o2 (vf_listed_ne (by decide) h)), fun h => vf_listed_keep (o3 (vf_listed_ne (by decide) h)), fun h => vf_listed_keep (o4 (vf_listed_ne (by decide) h)), fun h => vf_listed_keep (o6 (vf_listed_ne (by decide) h)), fun h => vf_listed_keep (o7 (vf_listed_ne (by decide) h)), fun h => vf_listed_keep (o8 (vf_listed_ne (by decide) h)), fun h => by have q := o9 (vf_listed_ne (by decide) h); exact ⟨vf_listed_keep q.1, vf_listed_keep q.2⟩, fun h => vf_listed_keep (o10 (vf_listed_ne (by decide) h)), fun h => vf_listed_keep (o11 (vf_listed_ne (by decide) h)), fun h => by have q := o12 (vf_listed_ne (by decide) h); exact ⟨vf_listed_keep q.1, vf_listed_keep q.2⟩, by rw [g8, g9, g12]; exact HVB.out⟩
            · injection ho with ho
              subst ho
              have d5 := hdep ⟨5, .data⟩ (by simp) rfl
              have g8 : (listed.setIfInBounds 6 true).getD 8 false = listed.getD 8 false := getD_set_ne _ (by decide)
              have g9 : (listed.setIfInBounds 6 true).getD 9 false = listed.getD 9 false := getD_set_ne _ (by decide)
              have g12 : (listed.setIfInBounds 6 true).getD 12 false = listed.getD 12 false := getD_set_ne _ (by decide)
              obtain rfl := f5 d5
              have n9 : listed.getD 9 false = false := by
                cases h : listed.getD 9 false with
                | false => rfl
                | true => have q := (o7 (o8 (o9 h).2)); rw [hno] at q; cases q
              rw [n9] at hvb
              have k6 := keepB (hvb.pre rfl).2.1 dt3
              have HVB := Lib.hid hvb
              clear hi hdep hvb
              refine vf_wpOpP_of rfl rfl ?_
              go_simp
              exact hK _ _ ⟨_, _, _, _, _, _, (.int .i64 x3), _, _, _, _, _, rfl, by simpa using hsz, fun h => by first | exact f0 (vf_listed_ne (by decide) h) | rfl, fun h => by first | exact f1 (vf_listed_ne (by decide) h) | rfl, fun h => by first | exact f2 (vf_listed_ne (by decide) h) | rfl, fun h => by first | exact f3 (vf_listed_ne (by decide) h) | rfl, fun h => by first | exact f4 (vf_listed_ne (by decide) h) | rfl, fun h => by first | exact f5 (vf_listed_ne (by decide) h) | rfl, fun _ => rfl, fun h => by first | exact f7 (vf_listed_ne (by decide) h) | rfl, fun h => by first | exact f10 (vf_listed_ne (by decide) h) | rfl, fun h => by first | exact f11 (vf_listed_ne (by decide) h) | rfl, fun h => vf_listed_keep (o2 (vf_listed_ne (by decide) h)), fun h => vf_listed_keep (o3 (vf_listed_ne (by decide) h)), fun h => vf_listed_keep (o4 (vf_listed_ne (by decide) h)), fun _ => vf_listed_keep d5, fun h => vf_listed_keep (o7 (vf_listed_ne (by decide) h)), fun h => vf_listed_keep (o8 (vf_listed_ne (by decide) h)), fun h => by have q := o9 (vf_listed_ne (by decide) h); exact ⟨vf_listed_keep q.1, vf_listed_keep q.2⟩, fun h => vf_listed_keep (o10 (vf_listed_ne (by decide) h)), fun h => vf_listed_keep (o11 (vf_listed_ne (by decide) h)), fun h => by have q := o12 (vf_listed_ne (by decide) h); exact ⟨vf_listed_keep q.1, vf_listed_keep q.2⟩, by rw [g8, g9, g12, n9]; exact HVB.out⟩
            · injection ho with ho
              subst ho
              have d6 := hdep ⟨6, .data⟩ (by simp) rfl
              have g8 : (listed.setIfInBounds 7 true).getD 8 false = listed.getD 8 false := getD_set_ne _ (by decide)
              have g9 : (listed.setIfInBounds 7 true).getD 9 false = listed.getD 9 false := getD_set_ne _ (by decide)
              have g12 : (listed.setIfInBounds 7 true).getD 12 false = listed.getD 12 false := getD_set_ne _ (by decide)
              obtain rfl := f6 d6
              obtain ⟨hwx, hix⟩ := HXW.out
              have HVB := Lib.hid hvb
              clear hi hdep hvb
              refine vf_wpOpP_of rfl rfl ?_
              go_simp
              exact hK _ _ ⟨_, _, _, _, _, _, _, (.int .i64 X), _, _, _, _, rfl, by simpa using hsz, fun h => by first | exact f0 (vf_listed_ne (by decide) h) | rfl, fun h => by first | exact f1 (vf_listed_ne (by decide) h) | rfl, fun h => by first | exact f2 (vf_listed_ne (by decide) h) | rfl, fun h => by first | exact f3 (vf_listed_ne (by decide) h) | rfl, fun h => by first | exact f4 (vf_listed_ne (by decide) h) | rfl, fun h => by first | exact f5 (vf_listed_ne (by decide) h) | rfl, fun h => by first | exact f6 (vf_listed_ne (by decide) h) | rfl, fun _ => rfl, fun h => by first | exact f10 (vf_listed_ne (by decide) h) | rfl, fun h => by first | exact f11 (vf_listed_ne (by decide) h) | rfl, fun h => vf_listed_keep (o2 (vf_listed_ne (by decide) h)), fun h => vf_listed_keep (o3 (vf_listed_ne (by decide) h)), fun h => vf_listed_keep (o4 (vf_listed_ne (by decide) h)), fun h => vf_listed_keep (o6 (vf_listed_ne (by decide) h)), fun _ => vf_listed_keep d6, fun h => vf_listed_keep (o8 (vf_listed_ne (by decide) h)), fun h => by have q := o9 (vf_listed_ne (by decide) h); exact ⟨vf_listed_keep q.1, vf_listed_keep q.2⟩, fun h => vf_listed_keep (o10 (vf_listed_ne (by decide) h)), fun h => vf_listed_keep (o11 (vf_listed_ne (by decide) h)), fun h => by have q := o12 (vf_listed_ne (by decide) h); exact ⟨vf_listed_keep q.1, vf_listed_keep q.2⟩, by rw [g8, g9, g12]; exact HVB.out⟩
            · injection ho with ho
              subst ho
              have d7 := hdep ⟨7, .data⟩ (by simp) rfl
              have g8 : (listed.setIfInBounds 8 true).getD 8 false = true := hself
              have g9 : (listed.setIfInBounds 8 true).getD 9 false = listed.getD 9 false := getD_set_ne _ (by decide)
              have g12 : (listed.setIfInBounds 8 true).getD 12 false = listed.getD 12 false := getD_set_ne _ (by decide)
              obtain rfl := f7 d7
              have n9 : listed.getD 9 false = false := by
                cases h : listed.getD 9 false with
                | false => rfl
                | true => have q := (o9 h).2; rw [hno] at q; cases q
              rw [n9, hno] at hvb
              have HVB := Lib.hid hvb
              clear hi hdep hvb
              refine vf_wpOpP_of rfl rfl ?_
              go_simp
              exact hK _ _ ⟨_, _, _, _, _, _, _, _, _, _, _, _, rfl, by simpa using hsz, fun h => by first | exact f0 (vf_listed_ne (by decide) h) | rfl, fun h => by first | exact f1 (vf_listed_ne (by decide) h) | rfl, fun h => by first | exact f2 (vf_listed_ne (by decide) h) | rfl, fun h => by first | exact f3 (vf_listed_ne (by decide) h) | rfl, fun h => by first | exact f4 (vf_listed_ne (by decide) h) | rfl, fun h => by first | exact f5 (vf_listed_ne (by decide) h) | rfl, fun h => by first | exact f6 (vf_listed_ne (by decide) h) | rfl, fun h => by first | exact f7 (vf_listed_ne (by decide) h) | rfl, fun h => by first | exact f10 (vf_listed_ne (by decide) h) | rfl, fun h => by first | exact f11 (vf_listed_ne (by decide) h) | rfl, fun h => vf_listed_keep (o2 (vf_listed_ne (by decide) h)), fun h => vf_listed_keep (o3 (vf_listed_ne (by decide) h)), fun h => vf_listed_keep (o4 (vf_listed_ne (by decide) h)), fun h => vf_listed_keep (o6 (vf_listed_ne (by decide) h)), fun h => vf_listed_keep (o7 (vf_listed_ne (by decide) h)), fun _ => vf_listed_keep d7, fun h => by have q := o9 (vf_listed_ne (by decide) h); exact ⟨vf_listed_keep q.1, vf_listed_keep q.2⟩, fun h => vf_listed_keep (o10 (vf_listed_ne (by decide) h)), fun h => vf_listed_keep (o11 (vf_listed_ne (by decide) h)), fun h => by have q := o12 (vf_listed_ne (by decide) h); exact ⟨vf_listed_keep q.1, vf_listed_keep q.2⟩, by rw [g8, g9, g12, n9]; exact HVB.out.built⟩
            · injection ho with ho
              subst ho
              have d4 := hdep ⟨4, .data⟩ (by simp) rfl
              have d8 := hdep ⟨8, .data⟩ (by simp) rfl
              have g8 : (listed.setIfInBounds 9 true).getD 8 false = listed.getD 8 false := getD_set_ne _ (by decide)
              have g9 : (listed.setIfInBounds 9 true).getD 9 false = true := hself
              have g12 : (listed.setIfInBounds 9 true).getD 12 false = listed.getD 12 false := getD_set_ne _ (by decide)
              obtain rfl := f4 d4
              have n12 : listed.getD 12 false = false := by
                cases h : listed.getD 12 false with
                | false => rfl
                | true => have q := (o12 h).1; rw [hno] at q; cases q
              rw [n12, d8, hno] at hvb
              obtain ⟨v10, w10, hrun10, hvb10⟩ := hvb.appd (by rw [HRL.out]; exact HLS.out) (by have := HB9.out.size; omega) (by rw [HRL.out]; omega) 22
              refine vf_wpOpP_of rfl rfl ?_
              refine wp_append_run (.tmp 71) (.tmp 75) 22 22 rfl _ _ rfl rfl hrun10 ?_
              exact hK _ _ ⟨_, _, _, _, _, _, _, _, _, (v10), _, _, rfl, by simpa using hsz, fun h => by first | exact f0 (vf_listed_ne (by decide) h) | rfl, fun h => by first | exact f1 (vf_listed_ne (by decide) h) | rfl, fun h => by first | exact f2 (vf_listed_ne (by decide) h) | rfl, fun h => by first | exact f3 (vf_listed_ne (by decide) h) | rfl, fun h => by first | exact f4 (vf_listed_ne (by decide) h) | rfl, fun h => by first | exact f5 (vf_listed_ne (by decide) h) | rfl, fun h => by first | exact f6 (vf_listed_ne (by decide) h) | rfl, fun h => by first | exact f7 (vf_listed_ne (by decide) h) | rfl, fun h => by first | exact f10 (vf_listed_ne (by decide) h) | rfl, fun h => by first | exact f11 (vf_listed_ne (by decide) h) | rfl, fun h => vf_listed_keep (o2 (vf_listed_ne (by decide) h)), fun h => vf_listed_keep (o3 (vf_listed_ne (by decide) h)), fun h => vf_listed_keep (o4 (vf_listed_ne (by decide) h)), fun h => vf_listed_keep (o6 (vf_listed_ne (by decide) h)), fun h => vf_listed_keep (o7 (vf_listed_ne (by decide) h)), fun h => vf_listed_keep (o8 (vf_listed_ne (by decide) h)), fun _ => ⟨vf_listed_keep d4, vf_listed_keep d8⟩, fun h => vf_listed_keep (o10 (vf_listed_ne (by decide) h)), fun h => vf_listed_keep (o11 (vf_listed_ne (by decide) h)), fun h => by have q := o12 (vf_listed_ne (by decide) h); exact ⟨vf_listed_keep q.1, vf_listed_keep q.2⟩, by rw [g8, g9, g12, n12, d8]; exact hvb10⟩
            · injection ho with ho
              subst ho
              have d0 := hdep ⟨0, .data⟩ (by simp) rfl
              have g8 : (listed.setIfInBounds 10 true).getD 8 false = listed.getD 8 false := getD_set_ne _ (by decide)
              have g9 : (listed.setIfInBounds 10 true).getD 9 false = listed.getD 9 false := getD_set_ne _ (by decide)
              have g12 : (listed.setIfInBounds 10 true).getD 12 false = listed.getD 12 false := getD_set_ne _ (by decide)
              obtain rfl := f0 d0
              have HVB := Lib.hid hvb
              clear hi hdep hvb
              refine vf_wpOpP_of rfl rfl ?_
              go_simp
              exact hK _ _ ⟨_, _, _, _, _, _, _, _, _, _, (.pointer (some ⟨g, q, none⟩)), _, rfl, by simpa using hsz, fun h => by first | exact f0 (vf_listed_ne (by decide) h) | rfl, fun h => by first | exact f1 (vf_listed_ne (by decide) h) | rfl, fun h => by first | exact f2 (vf_listed_ne (by decide) h) | rfl, fun h => by first | exact f3 (vf_listed_ne (by decide) h) | rfl, fun h => by first | exact f4 (vf_listed_ne (by decide) h) | rfl, fun h => by first | exact f5 (vf_listed_ne (by decide) h) | rfl, fun h => by first | exact f6 (vf_listed_ne (by decide) h) | rfl, fun h => by first | exact f7 (vf_listed_ne (by decide) h) | rfl, fun _ => rfl, fun h => by first | exact f11 (vf_listed_ne (by decide) h) | rfl, fun h => vf_listed_keep (o2 (vf_listed_ne (by decide) h)), fun h => vf_listed_keep (o3 (vf_listed_ne (by decide) h)), fun h => vf_listed_keep (o4 (vf_listed_ne (by decide) h)), fun h => vf_listed_keep (o6 (vf_listed_ne (by decide) h)), fun h => vf_listed_keep (o7 (vf_listed_ne (by decide) h)), fun h => vf_listed_keep (o8 (vf_listed_ne (by decide) h)), fun h => by have q := o9 (vf_listed_ne (by decide) h); exact ⟨vf_listed_keep q.1, vf_listed_keep q.2⟩, fun _ => vf_listed_keep d0, fun h => vf_listed_keep (o11 (vf_listed_ne (by decide) h)), fun h => by have q := o12 (vf_listed_ne (by decide) h); exact ⟨vf_listed_keep q.1, vf_listed_keep q.2⟩, by rw [g8, g9, g12]; exact HVB.out⟩
            · injection ho with ho
              subst ho
              have d10 := hdep ⟨10, .data⟩ (by simp) rfl
              have g8 : (listed.setIfInBounds 11 true).getD 8 false = listed.getD 8 false := getD_set_ne _ (by decide)
              have g9 : (listed.setIfInBounds 11 true).getD 9 false = listed.getD 9 false := getD_set_ne _ (by decide)
              have g12 : (listed.setIfInBounds 11 true).getD 12 false = listed.getD 12 false := getD_set_ne _ (by decide)
              obtain rfl := f10 d10
              have HVB := Lib.hid hvb
              clear hi hdep hvb
              refine vf_wpOpP_of rfl rfl ?_
              go_simp
              exact hK _ _ ⟨_, _, _, _, _, _, _, _, _, _, _, (.pointer (some ⟨g, q, none⟩)), rfl, by simpa using hsz, fun h => by first | exact f0 (vf_listed_ne (by decide) h) | rfl, fun h => by first | exact f1 (vf_listed_ne (by decide) h) | rfl, fun h => by first | exact f2 (vf_listed_ne (by decide) h) | rfl, fun h => by first | exact f3 (vf_listed_ne (by decide) h) | rfl, fun h => by first | exact f4 (vf_listed_ne (by decide) h) | rfl, fun h => by first | exact f5 (vf_listed_ne (by decide) h) | rfl, fun h => by first | exact f6 (vf_listed_ne (by decide) h) | rfl, fun h => by first | exact f7 (vf_listed_ne (by decide) h) | rfl, fun h => by first | exact f10 (vf_listed_ne (by decide) h) | rfl, fun _ => rfl, fun h => vf_listed_keep (o2 (vf_listed_ne (by decide) h)), fun h => vf_listed_keep (o3 (vf_listed_ne (by decide) h)), fun h => vf_listed_keep (o4 (vf_listed_ne (by decide) h)), fun h => vf_listed_keep (o6 (vf_listed_ne (by decide) h)), fun h => vf_listed_keep (o7 (vf_listed_ne (by decide) h)), fun h => vf_listed_keep (o8 (vf_listed_ne (by decide) h)), fun h => by have q := o9 (vf_listed_ne (by decide) h); exact ⟨vf_listed_keep q.1, vf_listed_keep q.2⟩, fun h => vf_listed_keep (o10 (vf_listed_ne (by decide) h)), fun _ => vf_listed_keep d10, fun h => by have q := o12 (vf_listed_ne (by decide) h); exact ⟨vf_listed_keep q.1, vf_listed_keep q.2⟩, by rw [g8, g9, g12]; exact HVB.out⟩
            · injection ho with ho
              subst ho
              have d9 := hdep ⟨9, .data⟩ (by simp) rfl
              have d11 := hdep ⟨11, .data⟩ (by simp) rfl
              have g8 : (listed.setIfInBounds 12 true).getD 8 false = listed.getD 8 false := getD_set_ne _ (by decide)
              have g9 : (listed.setIfInBounds 12 true).getD 9 false = listed.getD 9 false := getD_set_ne _ (by decide)
              have g12 : (listed.setIfInBounds 12 true).getD 12 false = true := hself
              obtain rfl := f11 d11
              have d8 := (o9 d9).2
              rw [d9, d8, hno] at hvb
              obtain ⟨na, nc, rfl⟩ := own_sl (hvb.app rfl rfl).2.1
              have k12 : w'.cell? ⟨g, q, none⟩ = some (.slice ua rl uc) := cell_heapY (hvb.box rfl) HCQ.out
              have kf : w'.frozen? ⟨g, q, none⟩ = false := frozen_of_row w' _ _ _ _ (hvb.box rfl)
              have kz : g < w'.heap.size := (Array.getElem?_eq_some_iff.1 (hvb.box rfl)).1
              have HVB := Lib.hid hvb
              clear hi hdep hvb
              refine vf_wpOpP_of rfl rfl ?_
              go_simp
              exact hK _ _ ⟨_, _, _, _, _, _, _, _, _, _, _, _, rfl, by simpa using hsz, fun h => by first | exact f0 (vf_listed_ne (by decide) h) | rfl, fun h => by first | exact f1 (vf_listed_ne (by decide) h) | rfl, fun h => by first | exact f2 (vf_listed_ne (by decide) h) | rfl, fun h => by first | exact f3 (vf_listed_ne (by decide) h) | rfl, fun h => by first | exact f4 (vf_listed_ne (by decide) h) | rfl, fun h => by first | exact f5 (vf_listed_ne (by decide) h) | rfl, fun h => by first | exact f6 (vf_listed_ne (by decide) h) | rfl, fun h => by first | exact f7 (vf_listed_ne (by decide) h) | rfl, fun h => by first | exact f10 (vf_listed_ne (by decide) h) | rfl, fun h => by first | exact f11 (vf_listed_ne (by decide) h) | rfl, fun h => vf_listed_keep (o2 (vf_listed_ne (by decide) h)), fun h => vf_listed_keep (o3 (vf_listed_ne (by decide) h)), fun h => vf_listed_keep (o4 (vf_listed_ne (by decide) h)), fun h => vf_listed_keep (o6 (vf_listed_ne (by decide) h)), fun h => vf_listed_keep (o7 (vf_listed_ne (by decide) h)), fun h => vf_listed_keep (o8 (vf_listed_ne (by decide) h)), fun h => by have q := o9 (vf_listed_ne (by decide) h); exact ⟨vf_listed_keep q.1, vf_listed_keep q.2⟩, fun h => vf_listed_keep (o10 (vf_listed_ne (by decide) h)), fun h => vf_listed_keep (o11 (vf_listed_ne (by decide) h)), fun _ => ⟨vf_listed_keep d9, vf_listed_keep d11⟩, by rw [g8, g9, g12, d9, d8]; exact HVB.out.stored⟩
          case fin =>
            rintro listed a' w' ⟨t67, t68, t69, t70, t71, t72, t73, t74, t75, t76, t77, t78, rfl, hsz, f0, f1, f2, f3, f4, f5, f6, f7, f10, f11, o2, o3, o4, o6, o7, o8, o9, o10, o11, o12, hvb⟩ hr
            have hfull := vf_ready_full hsz hr (by kernel_rfl)
            obtain rfl := f0 (hfull 0 (by decide))
            obtain rfl := f1 (hfull 1 (by decide))
            obtain rfl := f2 (hfull 2 (by decide))
            obtain rfl := f3 (hfull 3 (by decide))
            obtain rfl := f4 (hfull 4 (by decide))
            obtain rfl := f5 (hfull 5 (by decide))
            obtain rfl := f6 (hfull 6 (by decide))
            obtain rfl := f7 (hfull 7 (by decide))
            obtain rfl := f10 (hfull 10 (by decide))
            obtain rfl := f11 (hfull 11 (by decide))
            rw [hfull 8 (by decide), hfull 9 (by decide), hfull 12 (by decide)] at hvb
            clear o2 o3 o4 o6 o7 o8 o9 o10 o11 o12 hfull hr hsz
            obtain ⟨v', hb', ho', hl', hz', e1, e2, e3, hf'⟩ := hvb.fin rfl
            have hst' := RkSt.more HVQ.out HST.out HCU.out hb' (by rw [HRL.out] at ho' ⊢; exact ho') hl' hz' hf'
            have hbb : Below w5.heap.size w5 w' := ⟨e1.trans HB9.out.os, e2.trans HB9.out.tape, e3.trans HB9.out.output, Nat.le_trans HB9.out.size hz', fun b hb => (hf' b (by have := HB9.out.size; omega) (by omega) (fun e => by have := (HLS.out.lt b e.symm).1; omega)).trans (HB9.out.block b hb)⟩
            have HFIN := Lib.hid (And.intro hst'.at_ hbb)
            clear hvb hb' ho' hl' hz' e1 e2 e3 hf' hst' hbb
            go_wp2
            go_roundw
            case rel => exact ⟨_, _, _, _, _, ⟨(j + 1) + 1, by omega, by go_num, ⟨_, by rw [HKK.out]; exact HFIN.out.1⟩, HFIN.out.2⟩, rfl, rfl, rfl, rfl, rfl⟩
            case measure => simp [intOf]; omega
        · have HNW := Lib.hid (rkT_new HQX.out (show newB Q (j + 1) = true by unfold newB; rw [HQX.out, Nat.add_sub_cancel, hy]; simp only; rw [show (y2 == x2) = false by simpa using hpp]; simp))
          have hpp2 : (y2 == x2) = false := by simpa using hpp
          obtain ⟨hwj, hij⟩ := HWJ.out
          clear hy
          go_quiet (fail)
          clear hwj hij
          go_upto_region 13 with fail
          generalize hW2 : World.drewN _ _ = W2
          have hb2 : Below W1.heap.size W1 W2 := by rw [← hW2]; exact bdrN brefl
          have hb02 : Below wr.heap.size wr W2 := bup HB1.out hb2
          have z2 := hb02.size
          have HTB2 := Lib.hid ((hb2.block _ z1W).trans HBX.out)
          have HOW2 := Lib.hid (ownsRow_belowZ HOW.out hb02)
          have HRK2 := Lib.hid (HRK.out.below hb02)
          have HBR2 := Lib.hid (bup HBR.out hb02)
          have zW2 : wr.heap.size < W2.heap.size := by have := hb2.size; omega
          clear hW2 hb2 hb02 d2
          go_upto_region 14 with (at_builtin; go_must (refine wpList_append_own_at _ rfl _ _ 231 rfl w5.heap.size 233 j1 (.agg #[.slice none 0 0]) 1 24 Tryz.underlying231 ji jz0 jz1 jz2 rfl (by decide) _ _ _ rfl (HOW2.out.alloc _) ⟨_, 0, none⟩ 1 1 (encV (.slice none 0 0)) rfl rfl (newsL _ _ _) (by intro u hu; simp only [encV, List.mem_singleton] at hu; subst hu; rfl) (by unfold maxLen; omega) (by omega) (by simp; omega) ?_); intro v' w9 hown' hgrow _ hloc)
          have hst0 : RkSt w9 w5.heap.size v' us (.slice none 0 0) (rkT Q (j + 1)) [] := RkSt.fresh (HRK2.out.2.1.below (bal brefl _)) hgrow (by rw [HM.out]; exact hown') hloc
          have HTB := Lib.hid ((hgrow.block wr.heap.size (by simp; omega) (fun e => by have := (HOW.out.lt _ e.symm).2; omega)).trans ((heap_alloc_old W2 _ zW2).trans HTB2.out))
          have HB9 := Lib.hid (show Below w5.heap.size w5 w9 from (bal HBR2.out _).grown hgrow (by simp; omega) (fun q hq => (HOW.out.lt q hq).1))
          obtain ⟨ra', rc', rfl⟩ := own_sl hown'
          obtain ⟨q, hqm⟩ : ∃ q, m = q := ⟨_, rfl⟩
          subst hqm
          obtain ⟨vs, u, Rs, r, hst, hvq, hkk⟩ : ∃ vs u Rs r, RkSt w9 w5.heap.size (.slice ra' (m + 1) rc') vs u Rs r ∧ vs.length = m ∧ rkT Q ((j + 1) + 1) = Rs ++ [r ++ [X]] := ⟨us, _, _, _, hst0, HM.out, by rw [HNW.out, HXX.out]; rfl⟩
          obtain ⟨g, rfl⟩ := hst.lit
          clear hown' hgrow hloc hst0 HTB2 HOW2 HRK2 HBR2 HNW
          obtain ⟨cur, hcur, hcq, hbg⟩ := hst.cellq hvq
          have hlst := hst.last
          obtain ⟨rl, hrl⟩ : ∃ rl, r.length = rl := ⟨_, rfl⟩
          have hrl60 : rl ≤ 1000 := by
            have h1 := (KR.out ((j + 1) + 1) (by have := HN.out; omega)).l (r ++ [X]) (by rw [hkk]; simp)
            rw [List.length_append, hrl] at h1; omega
          rw [hrl] at hlst
          obtain ⟨ua, uc, rfl⟩ := own_sl hlst
          have hgz : g < w9.heap.size := (Array.getElem?_eq_some_iff.1 hcur).1
          have htz : wr.heap.size < w9.heap.size := (Array.getElem?_eq_some_iff.1 HTB.out).1
          have hgt : ¬ g = wr.heap.size := by
            intro e
            have h1 := hcur
            rw [e, HTB.out] at h1
            simp at h1
          have dt3 : w9.cell? ⟨wr.heap.size, 3, none⟩ = some (.int .i64 x3) := cell_heapY HTB.out rfl
          have HST := Lib.hid hst
          have HCU := Lib.hid hcur
          have HCQ := Lib.hid hcq
          have HVQ := Lib.hid hvq
          have HKK := Lib.hid hkk
          have HLS := Lib.hid hlst
          have HRL := Lib.hid hrl
          have HWQ := Lib.hid (wzC (m : Int) (by omega))
          have hq1 : (m : Int) < ((m + 1 : Nat) : Int) := by omega
          have hq2 : (m : Int) < (m : Int) + 1 := by omega
          have hq0 : 0 ≤ (m : Int) := by omega
          clear hst hcur hcq hvq hkk hlst hrl
          obtain ⟨hwq, hiq⟩ := HWQ.out
          go_upto_region 15 with fail
          clear hwq hiq
          refine wp_region_any (by kernel_rfl) ?_
          change wpAny _ _ _ _ _ _ _ (World.drew _)
          refine vf_anyP_inv (J := fun listed a' w' => ∃ t67 t68 t69 t70 t71 t72 t73 t74 t75 t76 t77 t78 : Value, a' = { tmps := #[Value.slice (some ⟨bb, off, none⟩) n oc4, Value.int IntKind.i64 am, Value.int IntKind.i64 most, undef, undef, Value.pointer (some ⟨w.heap.size, 0, none⟩), Value.pointer (some ⟨w.heap.size + 1, 0, none⟩), Value.int IntKind.i64 0, Value.int IntKind.i64 0, Value.slice (some ⟨g, 0, none⟩) (m + 1) rc', Value.int IntKind.i64 (↑j + 1), Value.pointer (some ⟨wr.heap.size, 0, none⟩), Value.pointer (some ⟨g, m, none⟩), undef, undef, undef, undef, Value.slice la ln lc, Value.int IntKind.i64 0, Value.int IntKind.i64 0, Value.bool false, undef, undef, Value.int IntKind.i64 am, Value.bool true, Value.bool false, Value.bool false, Value.int IntKind.i64 most, Value.bool true, Value.bool false, Value.bool false, undef, Value.slice la ln lc, Value.slice oa3 S.length oc3, Value.func (Fn.func 205) #[] #[Value.pointer (some ⟨w.heap.size, 0, none⟩)], Value.slice (some ⟨bb, off, none⟩) n oc4, Value.slice (some ⟨bb, off, none⟩) n oc4, Value.tuple #[], Value.slice (some ⟨bb, off, none⟩) n oc4, Value.int IntKind.i64 ↑n, Value.int IntKind.i64 (↑j + 1), Value.bool true, Value.int IntKind.i64 (↑j + 1), Value.pointer (some ⟨bb, off + (j + 1) * 4, none⟩), Value.agg #[Value.int IntKind.i64 x0, Value.int IntKind.i64 x1, Value.int IntKind.i64 x2, Value.int IntKind.i64 x3], Value.int IntKind.i64 (↑j + 1), Value.bool false, Value.bool false, Value.slice (some ⟨bb, off, none⟩) n oc4, Value.int IntKind.i64 (↑j + 1), Value.int IntKind.i64 ↑j, Value.pointer (some ⟨bb, off + j * 4, none⟩), Value.pointer (some ⟨bb, off + j * 4 + 2, none⟩), Value.int IntKind.i64 y2, Value.pointer (some ⟨wr.heap.size, 2, none⟩), Value.int IntKind.i64 x2, Value.bool true, Value.bool true, Value.slice ra m rc, Value.agg #[Value.slice none 0 0], Value.slice (some ⟨W2.heap.size, 0, none⟩) 1 1, Value.slice (some ⟨g, 0, none⟩) (m + 1) rc', Value.slice (some ⟨g, 0, none⟩) (m + 1) rc', Value.slice (some ⟨g, 0, none⟩) (m + 1) rc', Value.int IntKind.i64 (↑m + 1), Value.int IntKind.i64 ↑m, Value.pointer (some ⟨g, m, none⟩), t67, t68, t69, t70, t71, t72, t73, t74, t75, t76, t77, t78, u79, undef, undef, undef, undef, undef, undef, undef, undef, undef, undef, undef, undef, undef, undef, undef, undef, undef, undef, undef, undef, undef, undef, undef, undef, undef, undef, undef, undef, undef, undef, undef, undef, undef, undef, undef, undef, undef, undef, undef, undef, undef, undef, undef, undef, undef], defers := [] } ∧ listed.size = 13 ∧ (listed.getD 0 false = true → t67 = .pointer (some ⟨g, m, none⟩)) ∧ (listed.getD 1 false = true → t68 = .pointer (some ⟨g, m, none⟩)) ∧ (listed.getD 2 false = true → t69 = .pointer (some ⟨g, m, none⟩)) ∧ (listed.getD 3 false = true → t70 = .pointer (some ⟨g, m, none⟩)) ∧ (listed.getD 4 false = true → t71 = .slice ua rl uc) ∧ (listed.getD 5 false = true → t72 = .pointer (some ⟨wr.heap.size, 3, none⟩)) ∧ (listed.getD 6 false = true → t73 = .int .i64 x3) ∧ (listed.getD 7 false = true → t74 = .int .i64 X) ∧ (listed.getD 10 false = true → t77 = .pointer (some ⟨g, m, none⟩)) ∧ (listed.getD 11 false = true → t78 = .pointer (some ⟨g, m, none⟩)) ∧ (listed.getD 2 false = true → listed.getD 1 false = true) ∧ (listed.getD 3 false = true → listed.getD 2 false = true) ∧ (listed.getD 4 false = true → listed.getD 3 false = true) ∧ (listed.getD 6 false = true → listed.getD 5 false = true) ∧ (listed.getD 7 false = true → listed.getD 6 false = true) ∧ (listed.getD 8 false = true → listed.getD 7 false = true) ∧ (listed.getD 9 false = true → listed.getD 4 false = true ∧ listed.getD 8 false = true) ∧ (listed.getD 10 false = true → listed.getD 0 false = true) ∧ (listed.getD 11 false = true → listed.getD 10 false = true) ∧ (listed.getD 12 false = true → listed.getD 9 false = true ∧ listed.getD 11 false = true) ∧ D15 w9 g m cur w5.heap.size (.slice ua rl uc) r X (listed.getD 8 false) (listed.getD 9 false) (listed.getD 12 false) t75 t76 w') ?step ?fin _ _ _ _ ⟨_, _, _, _, _, _, _, _, _, _, _, _, rfl, rfl, fun h => by simp at h, fun h => by simp at h, fun h => by simp at h, fun h => by simp at h, fun h => by simp at h, fun h => by simp at h, fun h => by simp at h, fun h => by simp at h, fun h => by simp at h, fun h => by simp at h, fun h => by simp at h, fun h => by simp at h, fun h => by simp at h, fun h => by simp at h, fun h => by simp at h, fun h => by simp at h, fun h => by simp at h, fun h => by simp at h, fun h => by simp at h, fun h => by simp at h, D15.start HCU.out (bdr brefl)⟩ (by decide)
          case step =>
            rintro listed a' w' ⟨t67, t68, t69, t70, t71, t72, t73, t74, t75, t76, t77, t78, rfl, hsz, f0, f1, f2, f3, f4, f5, f6, f7, f10, f11, o2, o3, o4, o6, o7, o8, o9, o10, o11, o12, hvb⟩ i hi K hK
            obtain ⟨hni, o, ho, hdep⟩ := mem_ready.1 hi
            have hin : i < 13 := (Array.getElem?_eq_some_iff.1 ho).1
            have hself := vf_listed_self hni
            have hno := vf_listed_no hni
            rcases (show i = 0 ∨ i = 1 ∨ i = 2 ∨ i = 3 ∨ i = 4 ∨ i = 5 ∨ i = 6 ∨ i = 7 ∨ i = 8 ∨ i = 9 ∨ i = 10 ∨ i = 11 ∨ i = 12 by omega) with rfl | rfl | rfl | rfl | rfl | rfl | rfl | rfl | rfl | rfl | rfl | rfl | rfl
            · injection ho with ho
              subst ho
              have g8 : (listed.setIfInBounds 0 true).getD 8 false = listed.getD 8 false := getD_set_ne _ (by decide)
              have g9 : (listed.setIfInBounds 0 true).getD 9 false = listed.getD 9 false := getD_set_ne _ (by decide)
              have g12 : (listed.setIfInBounds 0 true).getD 12 false = listed.getD 12 false := getD_set_ne _ (by decide)
              have HVB := Lib.hid hvb
              clear hi hdep hvb
              refine vf_wpOpP_of rfl rfl ?_
              go_simp
              exact hK _ _ ⟨(.pointer (some ⟨g, m, none⟩)), _, _, _, _, _, _, _, _, _, _, _, rfl, by simpa using hsz, fun _ => rfl, fun h => by first | exact f1 (vf_listed_ne (by decide) h) | rfl, fun h => by first | exact f2 (vf_listed_ne (by decide) h) | rfl, fun h => by first | exact f3 (vf_listed_ne (by decide) h) | rfl, fun h => by first | exact f4 (vf_listed_ne (by decide) h) | rfl, fun h => by first | exact f5 (vf_listed_ne (by decide) h) | rfl, fun h => by first | exact f6 (vf_listed_ne (by decide) h) | rfl, fun h => by first | exact f7 (vf_listed_ne (by decide) h) | rfl, fun h => by first | exact f10 (vf_listed_ne (by decide) h) | rfl, fun h => by first | exact f11 (vf_listed_ne (by decide) h) | rfl, fun h => vf_listed_keep (o2 (vf_listed_ne (by decide) h)), fun h => vf_listed_keep (o3 (vf_listed_ne (by decide) h)), fun h => vf_listed_keep (o4 (vf_listed_ne (by decide) h)), fun h => vf_listed_keep (o6 (vf_listed_ne (by decide) h)), fun h => vf_listed_keep (o7 (vf_listed_ne (by decide) h)), fun h => vf_listed_keep (o8 (vf_listed_ne (by decide) h)), fun h => by have q := o9 (vf_listed_ne (by decide) h); exact ⟨vf_listed_keep q.1, vf_listed_keep q.2⟩, fun h => vf_listed_keep (o10 (vf_listed_ne (by decide) h)), fun h => vf_listed_keep (o11 (vf_listed_ne (by decide) h)), fun h => by have q := o12 (vf_listed_ne (by decide) h); exact ⟨vf_listed_keep q.1, vf_listed_keep q.2⟩, by rw [g8, g9, g12]; exact HVB.out⟩
            · injection ho with ho
              subst ho
              have g8 : (listed.setIfInBounds 1 true).getD 8 false = listed.getD 8 false := getD_set_ne _ (by decide)
              have g9 : (listed.setIfInBounds 1 true).getD 9 false = listed.getD 9 false := getD_set_ne _ (by decide)
              have g12 : (listed.setIfInBounds 1 true).getD 12 false = listed.getD 12 false := getD_set_ne _ (by decide)
              have HVB := Lib.hid hvb
              clear hi hdep hvb
              refine vf_wpOpP_of rfl rfl ?_
              go_simp
              exact hK _ _ ⟨_, (.pointer (some ⟨g, m, none⟩)), _, _, _, _, _, _, _, _, _, _, rfl, by simpa using hsz, fun h => by first | exact f0 (vf_listed_ne (by decide) h) | rfl, fun _ => rfl, fun h => by first | exact f2 (vf_listed_ne (by decide) h) | rfl, fun h => by first | exact f3 (vf_listed_ne (by decide) h) | rfl, fun h => by first | exact f4 (vf_listed_ne (by decide) h) | rfl, fun h => by first | exact f5 (vf_listed_ne (by decide) h) | rfl, fun h => by first | exact f6 (vf_listed_ne (by decide) h) | rfl, fun h => by first | exact f7 (vf_listed_ne (by decide) h) | rfl, fun h => by first | exact f10 (vf_listed_ne (by decide) h) | rfl, fun h => by first | exact f11 (vf_listed_ne (by decide) h) | rfl, fun h => vf_listed_keep (o2 (vf_listed_ne (by decide) h)), fun h => vf_listed_keep (o3 (vf_listed_ne (by decide) h)), fun h => vf_listed_keep (o4 (vf_listed_ne (by decide) h)), fun h => vf_listed_keep (o6 (vf_listed_ne (by decide) h)), fun h => vf_listed_keep (o7 (vf_listed_ne (by decide) h)), fun h => vf_listed_keep (o8 (vf_listed_ne (by decide) h)), fun h => by have q := o9 (vf_listed_ne (by decide) h); exact ⟨vf_listed_keep q.1, vf_listed_keep q.2⟩, fun h => vf_listed_keep (o10 (vf_listed_ne (by decide) h)), fun h => vf_listed_keep (o11 (vf_listed_ne (by decide) h)), fun h => by have q := o12 (vf_listed_ne (by decide) h); exact ⟨vf_listed_keep q.1, vf_listed_keep q.2⟩, by rw [g8, g9, g12]; exact HVB.out⟩
            · injection ho with ho
              subst ho
              have d1 := hdep ⟨1, .data⟩ (by simp) rfl
              have g8 : (listed.setIfInBounds 2 true).getD 8 false = listed.getD 8 false := getD_set_ne _ (by decide)
              have g9 : (listed.setIfInBounds 2 true).getD 9 false = listed.getD 9 false := getD_set_ne _ (by decide)
              have g12 : (listed.setIfInBounds 2 true).getD 12 false = listed.getD 12 false := getD_set_ne _ (by decide)
              obtain rfl := f1 d1
              have HVB := Lib.hid hvb
              clear hi hdep hvb
              refine vf_wpOpP_of rfl rfl ?_
              go_simp
              exact hK _ _ ⟨_, _, (.pointer (some ⟨g, m, none⟩)), _, _, _, _, _, _, _, _, _, rfl, by simpa using hsz, fun h => by first | exact f0 (vf_listed_ne (by decide) h) | rfl, fun h => by first | exact f1 (vf_listed_ne (by decide) h) | rfl, fun _ => rfl, fun h => by first | exact f3 (vf_listed_ne (by decide) h) | rfl, fun h => by first | exact f4 (vf_listed_ne (by decide) h) | rfl, fun h => by first | exact f5 (vf_listed_ne (by decide) h) | rfl, fun h => by first | exact f6 (vf_listed_ne (by decide) h) | rfl, fun h => by first | exact f7 (vf_listed_ne (by decide) h) | rfl, fun h => by first | exact f10 (vf_listed_ne (by decide) h) | rfl, fun h => by first | exact f11 (vf_listed_ne (by decide) h) | rfl, fun _ => vf_listed_keep d1, fun h => vf_listed_keep (o3 (vf_listed_ne (by decide) h)), fun h => vf_listed_keep (o4 (vf_listed_ne (by decide) h)), fun h => vf_listed_keep (o6 (vf_listed_ne (by decide) h)), fun h => vf_listed_keep (o7 (vf_listed_ne (by decide) h)), fun h => vf_listed_keep (o8 (vf_listed_ne (by decide) h)), fun h => by have q := o9 (vf_listed_ne (by decide) h); exact ⟨vf_listed_keep q.1, vf_listed_keep q.2⟩, fun h => vf_listed_keep (o10 (vf_listed_ne (by decide) h)), fun h => vf_listed_keep (o11 (vf_listed_ne (by decide) h)), fun h => by have q := o12 (vf_listed_ne (by decide) h); exact ⟨vf_listed_keep q.1, vf_listed_keep q.2⟩, by rw [g8, g9, g12]; exact HVB.out⟩
            · injection ho with ho
              subst ho
              have d2 := hdep ⟨2, .data⟩ (by simp) rfl
              have g8 : (listed.setIfInBounds 3 true).getD 8 false = listed.getD 8 false := getD_set_ne _ (by decide)
              have g9 : (listed.setIfInBounds 3 true).getD 9 false = listed.getD 9 false := getD_set_ne _ (by decide)
              have g12 : (listed.setIfInBounds 3 true).getD 12 false = listed.getD 12 false := getD_set_ne _ (by decide)
              obtain rfl := f2 d2
              have HVB := Lib.hid hvb
              clear hi hdep hvb
              refine vf_wpOpP_of rfl rfl ?_
              go_simp
              exact hK _ _ ⟨_, _, _, (.pointer (some ⟨g, m, none⟩)), _, _, _, _, _, _, _, _, rfl, by simpa using hsz, fun h => by first | exact f0 (vf_listed_ne (by decide) h) | rfl, fun h => by first | exact f1 (vf_listed_ne (by decide) h) | rfl, fun h => by first | exact f2 (vf_listed_ne (by decide) h) | rfl, fun _ => rfl, fun h => by first | exact f4 (vf_listed_ne (by decide) h) | rfl, fun h => by first | exact f5 (vf_listed_ne (by decide) h) | rfl, fun h => by first | exact f6 (vf_listed_ne (by decide) h) | rfl, fun h => by first | exact f7 (vf_listed_ne (by decide) h) | rfl, fun h => by first | exact f10 (vf_listed_ne (by decide) h) | rfl, fun h => by first | exact f11 (vf_listed_ne (by decide) h) | rfl, fun h => vf_listed_keep (o2 (vf_listed_ne (by decide) h)), fun _ => vf_listed_keep d2, fun h => vf_listed_keep (o4 (vf_listed_ne (by decide) h)), fun h => vf_listed_keep (o6 (vf_listed_ne (by decide) h)), fun h => vf_listed_keep (o7 (vf_listed_ne (by decide) h)), fun h => vf_listed_keep (o8 (vf_listed_ne (by decide) h)), fun h => by have q := o9 (vf_listed_ne (by decide) h); exact ⟨vf_listed_keep q.1, vf_listed_keep q.2⟩, fun h => vf_listed_keep (o10 (vf_listed_ne (by decide) h)), fun h => vf_listed_keep (o11 (vf_listed_ne (by decide) h)), fun h => by have q := o12 (vf_listed_ne (by decide) h); exact ⟨vf_listed_keep q.1, vf_listed_keep q.2⟩, by rw [g8, g9, g12]; exact HVB.out⟩
            · injection ho with ho
              subst ho
              have d3 := hdep ⟨3, .data⟩ (by simp) rfl
              have g8 : (listed.setIfInBounds 4 true).getD 8 false = listed.getD 8 false := getD_set_ne _ (by decide)
              have g9 : (listed.setIfInBounds 4 true).getD 9 false = listed.getD 9 false := getD_set_ne _ (by decide)
              have g12 : (listed.setIfInBounds 4 true).getD 12 false = listed.getD 12 false := getD_set_ne _ (by decide)
              obtain rfl := f3 d3
              have n12 : listed.getD 12 false = false := by
                cases h : listed.getD 12 false with
                | false => rfl
                | true => have q := (o9 (o12 h).1).1; rw [hno] at q; cases q
              rw [n12] at hvb
              have k4 : w'.cell? ⟨g, m, none⟩ = some (.slice ua rl uc) := cell_heapY (hvb.box rfl) HCQ.out
              have HVB := Lib.hid hvb
              clear hi hdep hvb
              refine vf_wpOpP_of rfl rfl ?_
              go_simp
              exact hK _ _ ⟨_, _, _, _, (.slice ua rl uc), _, _, _, _, _, _, _, rfl, by simpa using hsz, fun h => by first | exact f0 (vf_listed_ne (by decide) h) | rfl, fun h => by first | exact f1 (vf_listed_ne (by decide) h) | rfl, fun h => by first | exact f2 (vf_listed_ne (by decide) h) | rfl, fun h => by first | exact f3 (vf_listed_ne (by decide) h) | rfl, fun _ => rfl, fun h => by first | exact f5 (vf_listed_ne (by decide) h) | rfl, fun h => by first | exact f6 (vf_listed_ne (by decide) h) | rfl, fun h => by first | exact f7 (vf_listed_ne (by decide) h) | rfl, fun h => by first | exact f10 (vf_listed_ne (by decide) h) | rfl, fun h => by first | exact f11 (vf_listed_ne (by decide) h) | rfl, fun h => vf_listed_keep (o2 (vf_listed_ne (by decide) h)), fun h => vf_listed_keep (o3 (vf_listed_ne (by decide) h)), fun _ => vf_listed_keep d3, fun h => vf_listed_keep (o6 (vf_listed_ne (by decide) h)), fun h => vf_listed_keep (o7 (vf_listed_ne (by decide) h)), fun h => vf_listed_keep (o8 (vf_listed_ne (by decide) h)), fun h => by have q := o9 (vf_listed_ne (by decide) h); exact ⟨vf_listed_keep q.1, vf_listed_keep q.2⟩, fun h => vf_listed_keep (o10 (vf_listed_ne (by decide) h)), fun h => vf_listed_keep (o11 (vf_listed_ne (by decide) h)), fun h => by have q := o12 (vf_listed_ne (by decide) h); exact ⟨vf_listed_keep q.1, vf_listed_keep q.2⟩, by rw [g8, g9, g12, n12]; exact HVB.out⟩
            · injection ho with ho
              subst ho
              have g8 : (listed.setIfInBounds 5 true).getD 8 false = listed.getD 8 false := getD_set_ne _ (by decide)
              have g9 : (listed.setIfInBounds 5 true).getD 9 false = listed.getD 9 false := getD_set_ne _ (by decide)
              have g12 : (listed.setIfInBounds 5 true).getD 12 false = listed.getD 12 false := getD_set_ne _ (by decide)
              have HVB := Lib.hid hvb
              clear hi hdep hvb
              refine vf_wpOpP_of rfl rfl ?_
              go_simp
              exact hK _ _ ⟨_, _, _, _, _, (.pointer (some ⟨wr.heap.size, 3, none⟩)), _, _, _, _, _, _, rfl, by simpa using hsz, fun h => by first | exact f0 (vf_listed_ne (by decide) h) | rfl, fun h => by first | exact f1 (vf_listed_ne (by decide) h) | rfl, fun h => by first | exact f2 (vf_listed_ne (by decide) h) | rfl, fun h => by first | exact f3 (vf_listed_ne (by decide) h) | rfl, fun h => by first | exact f4 (vf_listed_ne (by decide) h) | rfl, fun _ => rfl, fun h => by first | exact f6 (vf_listed_ne (by decide) h) | rfl, fun h => by first | exact f7 (vf_listed_ne (by decide) h) | rfl, fun h => by first | exact f10 (vf_listed_ne (by decide) h) | rfl, fun h => by first | exact f11 (vf_listed_ne (by decide) h) | rfl, fun h => vf_listed_keep (o2 (vf_listed_ne (by decide) h)), fun h => vf_listed_keep (o3 (vf_listed_ne (by decide) h)), fun h => vf_listed_keep (o4 (vf_listed_ne (by decide) h)), fun h => vf_listed_keep (o6 (vf_listed_ne (by decide) h)), fun h => vf_listed_keep (o7 (vf_listed_ne (by decide) h)), fun h => vf_listed_keep (o8 (vf_listed_ne (by decide) h)), fun h => by have q := o9 (vf_listed_ne (by decide) h); exact ⟨vf_listed_keep q.1, vf_listed_keep q.2⟩, fun h => vf_listed_keep (o10 (vf_listed_ne (by decide) h)), fun h => vf_listed_keep (o11 (vf_listed_ne (by decide) h)), fun h => by have q := o12 (vf_listed_ne (by decide) h); exact ⟨vf_listed_keep q.1, vf_listed_keep q.2⟩, by rw [g8, g9, g12]; exact HVB.out⟩
            · injection ho with ho
              subst ho
              have d5 := hdep ⟨5, .data⟩ (by simp) rfl
              have g8 : (listed.setIfInBounds 6 true).getD 8 false = listed.getD 8 false := getD_set_ne _ (by decide)
              have g9 : (listed.setIfInBounds 6 true).getD 9 false = listed.getD 9 false := getD_set_ne _ (by decide)
              have g12 : (listed.setIfInBounds 6 true).getD 12 false = listed.getD 12 false := getD_set_ne _ (by decide)
              obtain rfl := f5 d5
              have n9 : listed.getD 9 false = false := by
                cases h : listed.getD 9 false with
                | false => rfl
                | true => have q := (o7 (o8 (o9 h).2)); rw [hno] at q; cases q
              rw [n9] at hvb
              have k6 := keepB (hvb.pre rfl).2.1 dt3
              have HVB := Lib.hid hvb
              clear hi hdep hvb
              refine vf_wpOpP_of rfl rfl ?_
              go_simp
              exact hK _ _ ⟨_, _, _, _, _, _, (.int .i64 x3), _, _, _, _, _, rfl, by simpa using hsz, fun h => by first | exact f0 (vf_listed_ne (by decide) h) | rfl, fun h => by first | exact f1 (vf_listed_ne (by decide) h) | rfl, fun h => by first | exact f2 (vf_listed_ne (by decide) h) | rfl, fun h => by first | exact f3 (vf_listed_ne (by decide) h) | rfl, fun h => by first | exact f4 (vf_listed_ne (by decide) h) | rfl, fun h => by first | exact f5 (vf_listed_ne (by decide) h) | rfl, fun _ => rfl, fun h => by first | exact f7 (vf_listed_ne (by decide) h) | rfl, fun h => by first | exact f10 (vf_listed_ne (by decide) h) | rfl, fun h => by first | exact f11 (vf_listed_ne (by decide) h) | rfl, fun h => vf_listed_keep (o2 (vf_listed_ne (by decide) h)), fun h => vf_listed_keep (o3 (vf_listed_ne (by decide) h)), fun h => vf_listed_keep (o4 (vf_listed_ne (by decide) h)), fun _ => vf_listed_keep d5, fun h => vf_listed_keep (o7 (vf_listed_ne (by decide) h)), fun h => vf_listed_keep (o8 (vf_listed_ne (by decide) h)), fun h => by have q := o9 (vf_listed_ne (by decide) h); exact ⟨vf_listed_keep q.1, vf_listed_keep q.2⟩, fun h => vf_listed_keep (o10 (vf_listed_ne (by decide) h)), fun h => vf_listed_keep (o11 (vf_listed_ne (by decide) h)), fun h => by have q := o12 (vf_listed_ne (by decide) h); exact ⟨vf_listed_keep q.1, vf_listed_keep q.2⟩, by rw [g8, g9, g12, n9]; exact HVB.out⟩
            · injection ho with ho
              subst ho
              have d6 := hdep ⟨6, .data⟩ (by simp) rfl
              have g8 : (listed.setIfInBounds 7 true).getD 8 false = listed.getD 8 false := getD_set_ne _ (by decide)
              have g9 : (listed.setIfInBounds 7 true).getD 9 false = listed.getD 9 false := getD_set_ne _ (by decide)
              have g12 : (listed.setIfInBounds 7 true).getD 12 false = listed.getD 12 false := getD_set_ne _ (by decide)
              obtain rfl := f6 d6
              obtain ⟨hwx, hix⟩ := HXW.out
              have HVB := Lib.hid hvb
              clear hi hdep hvb
              refine vf_wpOpP_of rfl rfl ?_
              go_simp
              exact hK _ _ ⟨_, _, _, _, _, _, _, (.int .i64 X), _, _, _, _, rfl, by simpa using hsz, fun h => by first | exact f0 (vf_listed_ne (by decide) h) | rfl, fun h => by first | exact f1 (vf_listed_ne (by decide) h) | rfl, fun h => by first | exact f2 (vf_listed_ne (by decide) h) | rfl, fun h => by first | exact f3 (vf_listed_ne (by decide) h) | rfl, fun h => by first | exact f4 (vf_listed_ne (by decide) h) | rfl, fun h => by first | exact f5 (vf_listed_ne (by decide) h) | rfl, fun h => by first | exact f6 (vf_listed_ne (by decide) h) | rfl, fun _ => rfl, fun h => by first | exact f10 (vf_listed_ne (by decide) h) | rfl, fun h => by first | exact f11 (vf_listed_ne (by decide) h) | rfl, fun h => vf_listed_keep (o2 (vf_listed_ne (by decide) h)), fun h => vf_listed_keep (o3 (vf_listed_ne (by decide) h)), fun h => vf_listed_keep (o4 (vf_listed_ne (by decide) h)), fun h => vf_listed_keep (o6 (vf_listed_ne (by decide) h)), fun _ => vf_listed_keep d6, fun h => vf_listed_keep (o8 (vf_listed_ne (by decide) h)), fun h => by have q := o9 (vf_listed_ne (by decide) h); exact ⟨vf_listed_keep q.1, vf_listed_keep q.2⟩, fun h => vf_listed_keep (o10 (vf_listed_ne (by decide) h)), fun h => vf_listed_keep (o11 (vf_listed_ne (by decide) h)), fun h => by have q := o12 (vf_listed_ne (by decide) h); exact ⟨vf_listed_keep q.1, vf_listed_keep q.2⟩, by rw [g8, g9, g12]; exact HVB.out⟩
            · injection ho with ho
              subst ho
              have d7 := hdep ⟨7, .data⟩ (by simp) rfl
              have g8 : (listed.setIfInBounds 8 true).getD 8 false = true := hself
              have g9 : (listed.setIfInBounds 8 true).getD 9 false = listed.getD 9 false := getD_set_ne _ (by decide)
              have g12 : (listed.setIfInBounds 8 true).getD 12 false = listed.getD 12 false := getD_set_ne _ (by decide)
              obtain rfl := f7 d7
              have n9 : listed.getD 9 false = false := by
                cases h : listed.getD 9 false with
                | false => rfl
                | true => have q := (o9 h).2; rw [hno] at q; cases q
              rw [n9, hno] at hvb
              have HVB := Lib.hid hvb
              clear hi hdep hvb
              refine vf_wpOpP_of rfl rfl ?_
              go_simp
              exact hK _ _ ⟨_, _, _, _, _, _, _, _, _, _, _, _, rfl, by simpa using hsz, fun h => by first | exact f0 (vf_listed_ne (by decide) h) | rfl, fun h => by first | exact f1 (vf_listed_ne (by decide) h) | rfl, fun h => by first | exact f2 (vf_listed_ne (by decide) h) | rfl, fun h => by first | exact f3 (vf_listed_ne (by decide) h) | rfl, fun h => by first | exact f4 (vf_listed_ne (by decide) h) | rfl, fun h => by first | exact f5 (vf_listed_ne (by decide) h) | rfl, fun h => by first | exact f6 (vf_listed_ne (by decide) h) | rfl, fun h => by first | exact f7 (vf_listed_ne (by decide) h) | rfl, fun h => by first | exact f10 (vf_listed_ne (by decide) h) | rfl, fun h => by first | exact f11 (vf_listed_ne (by decide) h) | rfl, fun h => vf_listed_keep (o2 (vf_listed_ne (by decide) h)), fun h => vf_listed_keep (o3 (vf_listed_ne (by decide) h)), fun h => vf_listed_keep (o4 (vf_listed_ne (by decide) h)), fun h => vf_listed_keep (o6 (vf_listed_ne (by decide) h)), fun h => vf_listed_keep (o7 (vf_listed_ne (by decide) h)), fun _ => vf_listed_keep d7, fun h => by have q := o9 (vf_listed_ne (by decide) h); exact ⟨vf_listed_keep q.1, vf_listed_keep q.2⟩, fun h => vf_listed_keep (o10 (vf_listed_ne (by decide) h)), fun h => vf_listed_keep (o11 (vf_listed_ne (by decide) h)), fun h => by have q := o12 (vf_listed_ne (by decide) h); exact ⟨vf_listed_keep q.1, vf_listed_keep q.2⟩, by rw [g8, g9, g12, n9]; exact HVB.out.built⟩
            · injection ho with ho
              subst ho
              have d4 := hdep ⟨4, .data⟩ (by simp) rfl
              have d8 := hdep ⟨8, .data⟩ (by simp) rfl
              have g8 : (listed.setIfInBounds 9 true).getD 8 false = listed.getD 8 false := getD_set_ne _ (by decide)
              have g9 : (listed.setIfInBounds 9 true).getD 9 false = true := hself
              have g12 : (listed.setIfInBounds 9 true).getD 12 false = listed.getD 12 false := getD_set_ne _ (by decide)
              obtain rfl := f4 d4
              have n12 : listed.getD 12 false = false := by
                cases h : listed.getD 12 false with
                | false => rfl
                | true => have q := (o12 h).1; rw [hno] at q; cases q
              rw [n12, d8, hno] at hvb
              obtain ⟨v10, w10, hrun10, hvb10⟩ := hvb.appd (by rw [HRL.out]; exact HLS.out) (by have := HB9.out.size; omega) (by rw [HRL.out]; omega) 22
              refine vf_wpOpP_of rfl rfl ?_
              refine wp_append_run (.tmp 71) (.tmp 75) 22 22 rfl _ _ rfl rfl hrun10 ?_
              exact hK _ _ ⟨_, _, _, _, _, _, _, _, _, (v10), _, _, rfl, by simpa using hsz, fun h => by first | exact f0 (vf_listed_ne (by decide) h) | rfl, fun h => by first | exact f1 (vf_listed_ne (by decide) h) | rfl, fun h => by first | exact f2 (vf_listed_ne (by decide) h) | rfl, fun h => by first | exact f3 (vf_listed_ne (by decide) h) | rfl, fun h => by first | exact f4 (vf_listed_ne (by decide) h) | rfl, fun h => by first | exact f5 (vf_listed_ne (by decide) h) | rfl, fun h => by first | exact f6 (vf_listed_ne (by decide) h) | rfl, fun h => by first | exact f7 (vf_listed_ne (by decide) h) | rfl, fun h => by first | exact f10 (vf_listed_ne (by decide) h) | rfl, fun h => by first | exact f11 (vf_listed_ne (by decide) h) | rfl, fun h => vf_listed_keep (o2 (vf_listed_ne (by decide) h)), fun h => vf_listed_keep (o3 (vf_listed_ne (by decide) h)), fun h => vf_listed_keep (o4 (vf_listed_ne (by decide) h)), fun h => vf_listed_keep (o6 (vf_listed_ne (by decide) h)), fun h => vf_listed_keep (o7 (vf_listed_ne (by decide) h)), fun h => vf_listed_keep (o8 (vf_listed_ne (by decide) h)), fun _ => ⟨vf_listed_keep d4, vf_listed_keep d8⟩, fun h => vf_listed_keep (o10 (vf_listed_ne (by decide) h)), fun h => vf_listed_keep (o11 (vf_listed_ne (by decide) h)), fun h => by have q := o12 (vf_listed_ne (by decide) h); exact ⟨vf_listed_keep q.1, vf_listed_keep q.2⟩, by rw [g8, g9, g12, n12, d8]; exact hvb10⟩
            · injection ho with ho
              subst ho
              have d0 := hdep ⟨0, .data⟩ (by simp) rfl
              have g8 : (listed.setIfInBounds 10 true).getD 8 false = listed.getD 8 false := getD_set_ne _ (by decide)
              have g9 : (listed.setIfInBounds 10 true).getD 9 false = listed.getD 9 false := getD_set_ne _ (by decide)
              have g12 : (listed.setIfInBounds 10 true).getD 12 false = listed.getD 12 false := getD_set_ne _ (by decide)
              obtain rfl := f0 d0
              have HVB := Lib.hid hvb
              clear hi hdep hvb
              refine vf_wpOpP_of rfl rfl ?_
              go_simp
              exact hK _ _ ⟨_, _, _, _, _, _, _, _, _, _, (.pointer (some ⟨g, m, none⟩)), _, rfl, by simpa using hsz, fun h => by first | exact f0 (vf_listed_ne (by decide) h) | rfl, fun h => by first | exact f1 (vf_listed_ne (by decide) h) | rfl, fun h => by first | exact f2 (vf_listed_ne (by decide) h) | rfl, fun h => by first | exact f3 (vf_listed_ne (by decide) h) | rfl, fun h => by first | exact f4 (vf_listed_ne (by decide) h) | rfl, fun h => by first | exact f5 (vf_listed_ne (by decide) h) | rfl, fun h => by first | exact f6 (vf_listed_ne (by decide) h) | rfl, fun h => by first | exact f7 (vf_listed_ne (by decide) h) | rfl, fun _ => rfl, fun h => by first | exact f11 (vf_listed_ne (by decide) h) | rfl, fun h => vf_listed_keep (o2 (vf_listed_ne (by decide) h)), fun h => vf_listed_keep (o3 (vf_listed_ne (by decide) h)), fun h => vf_listed_keep (o4 (vf_listed_ne (by decide) h)), fun h => vf_listed_keep (o6 (vf_listed_ne (by decide) h)), fun h => vf_listed_keep (o7 (vf_listed_ne (by decide) h)), fun h => vf_listed_keep (o8 (vf_listed_ne (by decide) h)), fun h => by have q := o9 (vf_listed_ne (by decide) h); exact ⟨vf_listed_keep q.1, vf_listed_keep q.2⟩, fun _ => vf_listed_keep d0, fun h => vf_listed_keep (o11 (vf_listed_ne (by decide) h)), fun h => by have q := o12 (vf_listed_ne (by decide) h); exact ⟨vf_listed_keep q.1, vf_listed_keep q.2⟩, by rw [g8, g9, g12]; exact HVB.out⟩
            · injection ho with ho
              subst ho
              have d10 := hdep ⟨10, .data⟩ (by simp) rfl
              have g8 : (listed.setIfInBounds 11 true).getD 8 false = listed.getD 8 false := getD_set_ne _ (by decide)
              have g9 : (listed.setIfInBounds 11 true).getD 9 false = listed.getD 9 false := getD_set_ne _ (by decide)
              have g12 : (listed.setIfInBounds 11 true).getD 12 false = listed.getD 12 false := getD_set_ne _ (by decide)
              obtain rfl := f10 d10
              have HVB := Lib.hid hvb
              clear hi hdep hvb
              refine vf_wpOpP_of rfl rfl ?_
              go_simp
              exact hK _ _ ⟨_, _, _, _, _, _, _, _, _, _, _, (.pointer (some ⟨g, m, none⟩)), rfl, by simpa using hsz, fun h => by first | exact f0 (vf_listed_ne (by decide) h) | rfl, fun h => by first | exact f1 (vf_listed_ne (by decide) h) | rfl, fun h => by first | exact f2 (vf_listed_ne (by decide) h) | rfl, fun h => by first | exact f3 (vf_listed_ne (by decide) h) | rfl, fun h => by first | exact f4 (vf_listed_ne (by decide) h) | rfl, fun h => by first | exact f5 (vf_listed_ne (by decide) h) | rfl, fun h => by first | exact f6 (vf_listed_ne (by decide) h) | rfl, fun h => by first | exact f7 (vf_listed_ne (by decide) h) | rfl, fun h => by first | exact f10 (vf_listed_ne (by decide) h) | rfl, fun _ => rfl, fun h => vf_listed_keep (o2 (vf_listed_ne (by decide) h)), fun h => vf_listed_keep (o3 (vf_listed_ne (by decide) h)), fun h => vf_listed_keep (o4 (vf_listed_ne (by decide) h)), fun h => vf_listed_keep (o6 (vf_listed_ne (by decide) h)), fun h => vf_listed_keep (o7 (vf_listed_ne (by decide) h)), fun h => vf_listed_keep (o8 (vf_listed_ne (by decide) h)), fun h => by have q := o9 (vf_listed_ne (by decide) h); exact ⟨vf_listed_keep q.1, vf_listed_keep q.2⟩, fun h => vf_listed_keep (o10 (vf_listed_ne (by decide) h)), fun _ => vf_listed_keep d10, fun h => by have q := o12 (vf_listed_ne (by decide) h); exact ⟨vf_listed_keep q.1, vf_listed_keep q.2⟩, by rw [g8, g9, g12]; exact HVB.out⟩
            · injection ho with ho
              subst ho
              have d9 := hdep ⟨9, .data⟩ (by simp) rfl
              have d11 := hdep ⟨11, .data⟩ (by simp) rfl
              have g8 : (listed.setIfInBounds 12 true).getD 8 false = listed.getD 8 false := getD_set_ne _ (by decide)
              have g9 : (listed.setIfInBounds 12 true).getD 9 false = listed.getD 9 false := getD_set_ne _ (by decide)
              have g12 : (listed.setIfInBounds 12 true).getD 12 false = true := hself
              obtain rfl := f11 d11
              have d8 := (o9 d9).2
              rw [d9, d8, hno] at hvb
              obtain ⟨na, nc, rfl⟩ := own_sl (hvb.app rfl rfl).2.1
              have k12 : w'.cell? ⟨g, m, none⟩ = some (.slice ua rl uc) := cell_heapY (hvb.box rfl) HCQ.out
              have kf : w'.frozen? ⟨g, m, none⟩ = false := frozen_of_row w' _ _ _ _ (hvb.box rfl)
              have kz : g < w'.heap.size := (Array.getElem?_eq_some_iff.1 (hvb.box rfl)).1
              have HVB := Lib.hid hvb
              clear hi hdep hvb
              refine vf_wpOpP_of rfl rfl ?_
              go_simp
              exact hK _ _ ⟨_, _, _, _, _, _, _, _, _, _, _, _, rfl, by simpa using hsz, fun h => by first | exact f0 (vf_listed_ne (by decide) h) | rfl, fun h => by first | exact f1 (vf_listed_ne (by decide) h) | rfl, fun h => by first | exact f2 (vf_listed_ne (by decide) h) | rfl, fun h => by first | exact f3 (vf_listed_ne (by decide) h) | rfl, fun h => by first | exact f4 (vf_listed_ne (by decide) h) | rfl, fun h => by first | exact f5 (vf_listed_ne (by decide) h) | rfl, fun h => by first | exact f6 (vf_listed_ne (by decide) h) | rfl, fun h => by first | exact f7 (vf_listed_ne (by decide) h) | rfl, fun h => by first | exact f10 (vf_listed_ne (by decide) h) | rfl, fun h => by first | exact f11 (vf_listed_ne (by decide) h) | rfl, fun h => vf_listed_keep (o2 (vf_listed_ne (by decide) h)), fun h => vf_listed_keep (o3 (vf_listed_ne (by decide) h)), fun h => vf_listed_keep (o4 (vf_listed_ne (by decide) h)), fun h => vf_listed_keep (o6 (vf_listed_ne (by decide) h)), fun h => vf_listed_keep (o7 (vf_listed_ne (by decide) h)), fun h => vf_listed_keep (o8 (vf_listed_ne (by decide) h)), fun h => by have q := o9 (vf_listed_ne (by decide) h); exact ⟨vf_listed_keep q.1, vf_listed_keep q.2⟩, fun h => vf_listed_keep (o10 (vf_listed_ne (by decide) h)), fun h => vf_listed_keep (o11 (vf_listed_ne (by decide) h)), fun _ => ⟨vf_listed_keep d9, vf_listed_keep d11⟩, by rw [g8, g9, g12, d9, d8]; exact HVB.out.stored⟩
          case fin =>
            rintro listed a' w' ⟨t67, t68, t69, t70, t71, t72, t73, t74, t75, t76, t77, t78, rfl, hsz, f0, f1, f2, f3, f4, f5, f6, f7, f10, f11, o2, o3, o4, o6, o7, o8, o9, o10, o11, o12, hvb⟩ hr
            have hfull := vf_ready_full hsz hr (by kernel_rfl)
            obtain rfl := f0 (hfull 0 (by decide))
            obtain rfl := f1 (hfull 1 (by decide))
            obtain rfl := f2 (hfull 2 (by decide))
            obtain rfl := f3 (hfull 3 (by decide))
            obtain rfl := f4 (hfull 4 (by decide))
            obtain rfl := f5 (hfull 5 (by decide))
            obtain rfl := f6 (hfull 6 (by decide))
            obtain rfl := f7 (hfull 7 (by decide))
            obtain rfl := f10 (hfull 10 (by decide))
            obtain rfl := f11 (hfull 11 (by decide))
            rw [hfull 8 (by decide), hfull 9 (by decide), hfull 12 (by decide)] at hvb
            clear o2 o3 o4 o6 o7 o8 o9 o10 o11 o12 hfull hr hsz
            obtain ⟨v', hb', ho', hl', hz', e1, e2, e3, hf'⟩ := hvb.fin rfl
            have hst' := RkSt.more HVQ.out HST.out HCU.out hb' (by rw [HRL.out] at ho' ⊢; exact ho') hl' hz' hf'
            have hbb : Below w5.heap.size w5 w' := ⟨e1.trans HB9.out.os, e2.trans HB9.out.tape, e3.trans HB9.out.output, Nat.le_trans HB9.out.size hz', fun b hb => (hf' b (by have := HB9.out.size; omega) (by omega) (fun e => by have := (HLS.out.lt b e.symm).1; omega)).trans (HB9.out.block b hb)⟩
            have HFIN := Lib.hid (And.intro hst'.at_ hbb)
            clear hvb hb' ho' hl' hz' e1 e2 e3 hf' hst' hbb
            go_wp2
            go_roundw
            case rel => exact ⟨_, _, _, _, _, ⟨(j + 1) + 1, by omega, by go_num, ⟨_, by rw [HKK.out]; exact HFIN.out.1⟩, HFIN.out.2⟩, rfl, rfl, rfl, rfl, rfl⟩
            case measure => simp [intOf]; omega
    · have hkn : k = n := by omega
      subst hkn
      obtain ⟨wo, hwo⟩ : ∃ u, u = wr := ⟨wr, rfl⟩
      subst hwo
      obtain ⟨ra, rc, rfl⟩ := own_sl hrk.1
      have hSI : SlsI (fun _ => True) wo (.slice ra us.length rc) (rkT Q k) := ⟨us, Sl.own (P := fun _ => True) encV_len (by rw [flatV]; exact hrk.1) rfl (fun _ _ => trivial), hrk.2.1.mono fun _ _ _ => trivial⟩
      have hRK : RanksOk (rkT Q k) := by
        have := rkT_ranks (P := Q) (fun x hx => ⟨(HP.out x hx).a0, (HP.out x hx).a1⟩) (by have := HN.out; omega)
        rw [HN.out] at this; exact this
      have hA0 : 0 ≤ am / 1000 ∧ am / 1000 ≤ 1000000 := by omega
      have hdA : am.tdiv 1000 = am / 1000 := Int.tdiv_eq_ediv_of_nonneg (by omega)
      obtain ⟨hfl, -⟩ := srv_flat (rkT Q k) (am / 1000) hRK hA0.1 hA0.2
      obtain ⟨hrl, hrm⟩ := srv_rows (rkT Q k) (am / 1000) hRK hA0.1 hA0.2
      have hKK := KR.out k (by have := HN.out; omega)
      obtain ⟨R, hR⟩ : ∃ R, rkT Q k = R := ⟨_, rfl⟩
      rw [hR] at hSI hRK hfl hrl hrm hKK
      obtain ⟨A, hA⟩ : ∃ A, am / 1000 = A := ⟨_, rfl⟩
      rw [hA] at hA0 hdA hfl hrl hrm
      have KSV := Lib.hid (fun (U : World) (hU : Below wo.heap.size wo U) => serve_any A _ _ R U (hSI.below hU) hRK hA0.1 hA0.2)
      obtain ⟨V, hV⟩ : ∃ V, srvL A R = V := ⟨_, rfl⟩
      rw [hV] at KSV hfl hrl hrm
      have hVn : V.length ≤ 100 := by have := hKK.n; omega
      have hVk : ∀ g ∈ V, g.length ≤ 100 := fun g hg => by obtain ⟨r, hr, e⟩ := hrm g hg; have := hKK.l r hr; omega
      have hVe : ∀ g ∈ V, g ≠ [] := fun g hg e => by
        obtain ⟨r, hr, e2⟩ := hrm g hg
        rw [e] at e2
        exact hKK.ne r hr (List.eq_nil_of_length_eq_zero e2.symm)
      have KCC := Lib.hid (fun (U : World) (v : Value) (P : Nat → Prop) (hS : SlsI P U v V) => concat_any P v V U hS hVn hVk hVe)
      obtain ⟨F, hF⟩ : ∃ F, V.flatten = F := ⟨_, rfl⟩
      rw [hF] at KCC hfl
      have HFE := Lib.hid (show (srvL (am / 1000) (rkT Q Q.length)).flatten = F by rw [HN.out, hR, hA, hV, hF])
      have hFn : F.length = k := by rw [hfl.len, hKK.f]; simp; have := HN.out; omega
      have hFb : ∀ x ∈ F, 0 ≤ x ∧ x ≤ 1000000 := fun x hx => by
        obtain ⟨i, hi⟩ := List.mem_iff_getElem?.1 hx
        have hil : i < R.flatten.length := by rw [← hfl.len]; exact (List.getElem?_eq_some_iff.1 hi).1
        obtain ⟨y, hy, y0, y1⟩ := hfl.get (List.getElem?_eq_getElem hil)
        rw [hi] at hy; cases hy
        have hm : R.flatten[i] ∈ R.flatten := List.getElem_mem hil
        obtain ⟨r, hr, hxr⟩ := List.mem_flatten.1 hm
        have := hRK.b r hr _ hxr
        omega
      have HFN := Lib.hid hFn
      have HFB := Lib.hid hFb
      have HBR := Lib.hid hbr
      have HXR := Lib.hid ((hbr.block (w.heap.size + 1) (by omega)).trans HX5.out)
      have HSR := Lib.hid (HS5.out.below hbr)
      have HAA := Lib.hid (wzC A (by omega))
      obtain ⟨W, hW⟩ : ∃ W, W = wo.alloc (.cells #[.int .i64 0, .int .i64 0, .slice none 0 0] 125 (0, 0)) := ⟨_, rfl⟩
      have hbW : Below wo.heap.size wo W := by rw [hW]; exact bal brefl _
      have BW : W.heap[wo.heap.size]? = some (.cells #[.int .i64 0, .int .i64 0, .slice none 0 0] 125 (0, 0)) := by rw [hW]; exact heap_alloc_new wo _
      have zW : wo.heap.size < W.heap.size := (Array.getElem?_eq_some_iff.1 BW).1
      have HWW := Lib.hid hW
      have HBW := Lib.hid hbW
      have HBO := Lib.hid BW
      obtain ⟨haw, hai⟩ := HAA.out
      clear hSI hRK hfl hrl hrm hKK hV hVn hVk hVe hF hFn hFb hbr hW hbW BW hR hA hrk
      go_upto_region 18 with fail
      rw [← HWW.out]
      go_wp2_with fail
      clear haw hai hdA
      refine (KSV.out _ HBW.out).mono ?_
      rintro e w6 ⟨v6, rfl, hv6, hb6⟩
      have HBO6 := Lib.hid ((hb6.block _ zW).trans HBO.out)
      have HB6 := Lib.hid (bup HBW.out hb6)
      have z6 := hb6.size
      obtain ⟨qa, qn, qc, rfl, -, -, -⟩ := hv6.shape
      have HV6 := Lib.hid hv6
      clear hv6 hb6
      go_wp2_with fail
      refine (KCC.out _ _ _ HV6.out).mono ?_
      rintro e w7 ⟨v7, rfl, ho7, hb7⟩
      have z7 := hb7.size
      have HBO7 := Lib.hid ((hb7.block _ (by omega)).trans HBO6.out)
      have hB7 := bup HB6.out hb7
      have HXR7 := Lib.hid ((hB7.block _ (by have := HBR.out.size; omega)).trans HXR.out)
      have HSR7 := Lib.hid (HSR.out.below hB7)
      have HF7 := Lib.hid ((Sl.own (P := fun b => w6.heap.size ≤ b) encI_len ho7 rfl (fun _ h => h)))
      have HB7 := Lib.hid (HB5.out.trans ((HBR.out.trans (hB7.mono HBR.out.size)).mono (by omega)))
      obtain ⟨fa, fc, rfl⟩ := own_sl ho7
      rw [HFN.out] at HF7 ⊢
      have zr5 := HBR.out.size
      clear ho7 hb7 hB7 KSV KCC
      obtain ⟨i1, hi, hz0, hz1, hz2⟩ := info_parts infoAwd
      go_wp2
      go_loopw [86] (fun iv wq => ∃ (i : Nat) (av : Value), i ≤ k ∧ iv = .int .i64 i ∧ wq.heap[wo.heap.size]? = some (.cells #[.int .i64 (ctT Q F i), .int .i64 (slT F i), av] 125 (0, 0)) ∧ wq.ownsRow w7.heap.size 129 4 av (wdT Q F i).length (flatE encAwd (wdT Q F i)) ∧ w7.grownBy wq (some wo.heap.size)) (fun iv _ => k - (intOf iv).toNat)
      case atStart => exact ⟨0, .slice none 0 0, by omega, rfl, HBO7.out, World.ownsRow_nil _ _ _ _, ⟨rfl, rfl, rfl, Nat.le_refl _, fun _ _ _ => rfl⟩⟩
      case round =>
        obtain ⟨i, av, hik, rfl, hbx, haw, hgr⟩ := hrel
        have zg := hgr.size
        have hgB : ∀ b, w.heap.size + 2 ≤ b ∧ b < w5.heap.size → b ≠ wo.heap.size := fun b hb => by omega
        have hgF : ∀ b, w6.heap.size ≤ b → b ≠ wo.heap.size := fun b hb => by omega
        by_cases hit : i < k
        · obtain ⟨fb, foff, gq, rfl, -, hfz, hg, g0⟩ := (HF7.out.inRow hgr hgF).int hit
          obtain ⟨bb, off, x0, x1, x2, x3, rfl, -, hbb, hx, t0, t1, t2, t3⟩ := (HSR7.out.inRow hgr hgB).tdr hit
          have hiz : (i : Int) < (k : Int) := by omega
          obtain ⟨gg0, gg1⟩ := HFB.out gq (List.mem_of_getElem? hg)
          by_cases hg0 : gq = 0
          · subst hg0
            obtain ⟨e1, e2, e3⟩ := wdT_zero (P := Q) hg
            have HE := Lib.hid (And.intro e1 (And.intro e2 e3))
            have HFI := Lib.hid (And.intro hbx (And.intro haw hgr))
            clear e1 e2 e3 hbx haw hgr hg hx
            go_wp2
            go_roundw
            case rel => exact ⟨i + 1, av, by omega, by go_num, by rw [HE.out.2.1, HE.out.2.2]; exact HFI.out.1, by rw [HE.out.1]; exact HFI.out.2.1, HFI.out.2.2⟩
            case measure => simp [intOf]; omega
          · obtain ⟨e1, e2, e3⟩ := wdT_more hx hg hg0
            simp only at e1 e2
            have hg1 : (gq == 0) = false := by simpa using hg0
            have hwl := wdT_len Q F i
            obtain ⟨s0, s1⟩ := slT_bd HFB.out i
            obtain ⟨xs, hxs⟩ : ∃ xs, wdT Q F i = xs := ⟨_, rfl⟩
            obtain ⟨S0, hS0⟩ : ∃ s, slT F i = s := ⟨_, rfl⟩
            obtain ⟨C0, hC0⟩ : ∃ s, ctT Q F i = s := ⟨_, rfl⟩
            rw [hxs] at e1 hwl haw
            rw [hS0] at e3 s0 s1 hbx
            rw [hC0] at hbx
            obtain ⟨va, vc, rfl⟩ := own_sl haw
            have hS1 : 0 ≤ S0 ∧ S0 ≤ 100000000000 := by omega
            have HE := Lib.hid (And.intro e1 (And.intro e2 e3))
            have HW1 := Lib.hid (show wrap64 (gq * 1000) = gq * 1000 ∧ IntKind.i64.wrap (gq * 1000) = gq * 1000 from ⟨IntWalk.wrap64_in _ (by omega), IntWalk.i64_in _ (by omega)⟩)
            have HW2 := Lib.hid (show wrap64 (S0 + gq * 1000) = S0 + gq * 1000 ∧ IntKind.i64.wrap (S0 + gq * 1000) = S0 + gq * 1000 from ⟨IntWalk.wrap64_in _ (by omega), IntWalk.i64_in _ (by omega)⟩)
            obtain ⟨U1, hU1⟩ : ∃ W, W = wr.alloc (.cells #[.int .i64 x0, .int .i64 x1, .int .i64 x2, .int .i64 x3] 122 (0, 0)) := ⟨_, rfl⟩
            have hb1 : Below wr.heap.size wr U1 := by rw [hU1]; exact bal brefl _
            have T1 : U1.heap[wr.heap.size]? = some (.cells #[.int .i64 x0, .int .i64 x1, .int .i64 x2, .int .i64 x3] 122 (0, 0)) := by rw [hU1]; exact heap_alloc_new wr _
            have zB : wo.heap.size < wr.heap.size := (Array.getElem?_eq_some_iff.1 hbx).1
            have B1 := (hb1.block _ zB).trans hbx
            have o0 : U1.cell? ⟨wo.heap.size, 0, none⟩ = some (.int .i64 C0) := cell_heapY B1 rfl
            have o1 : U1.cell? ⟨wo.heap.size, 1, none⟩ = some (.int .i64 S0) := cell_heapY B1 rfl
            have bf : ∀ o, U1.frozen? ⟨wo.heap.size, o, none⟩ = false := fun o => frozen_of_row U1 _ _ _ _ B1
            have b2 : U1.cell? ⟨wr.heap.size, 2, none⟩ = some (.int .i64 x2) := cell_heapY T1 rfl
            have z1 : wr.heap.size < U1.heap.size := (Array.getElem?_eq_some_iff.1 T1).1
            have z2 : wo.heap.size < U1.heap.size := by omega
            have hne : ¬ wo.heap.size = wr.heap.size := by omega
            have HU := Lib.hid hU1
            have HT1 := Lib.hid T1
            have HB1 := Lib.hid B1
            have HAW := Lib.hid (ownsRow_belowZ haw hb1)
            have HGR := Lib.hid (grownBy_trans hgr (show wr.grownBy U1 (some wo.heap.size) by rw [hU1]; exact World.grownBy_alloc _ _ _))
            clear e1 e2 e3 hxs hS0 hC0 hbx haw hgr hg hx hU1 hb1 T1 B1
            go_upto_region 23 with fail
            rw [← HU.out]
            clear t0 t1 t2 t3
            obtain ⟨hw1, hi1⟩ := HW1.out
            obtain ⟨hw2, hi2⟩ := HW2.out
            go_upto_region 24 with fail
            obtain ⟨U2, hU2⟩ : ∃ W, W = (U1.setCell ⟨wo.heap.size, 0, none⟩ (.int .i64 x2)).setCell ⟨wo.heap.size, 1, none⟩ (.int .i64 (S0 + gq * 1000)) := ⟨_, rfl⟩
            rw [← hU2]
            have B2 : U2.heap[wo.heap.size]? = some (.cells #[.int .i64 x2, .int .i64 (S0 + gq * 1000), .slice va xs.length vc] 125 (0, 0)) := by
              have q1 := heap_setCell_same U1 _ 0 _ _ (.int .i64 x2) HB1.out
              have q2 := heap_setCell_same _ _ 1 _ _ (.int .i64 (S0 + gq * 1000)) q1
              rw [hU2, q2]; rfl
            have T2 : U2.heap[wr.heap.size]? = some (.cells #[.int .i64 x0, .int .i64 x1, .int .i64 x2, .int .i64 x3] 122 (0, 0)) := by
              rw [hU2]; exact (Below.heap_setCell _ _ _ _ (by simp only; omega)).trans ((Below.heap_setCell _ _ _ _ (by simp only; omega)).trans HT1.out)
            have hO2 : U2.ownsRow w7.heap.size 129 4 (.slice va xs.length vc) xs.length (flatE encAwd xs) := by
              have q1 := heap_setCell_same U1 _ 0 _ _ (.int .i64 x2) HB1.out
              rw [hU2]; exact own_set (by decide) q1 (own_set (by decide) HB1.out HAW.out)
            have hG2 : w7.grownBy U2 (some wo.heap.size) := by rw [hU2]; exact grownBy_trans (grownBy_trans HGR.out (grownBy_setCell _ _ _ _)) (grownBy_setCell _ _ _ _)
            have zz2 : U2.heap.size = U1.heap.size := by rw [hU2]; simp [World.setCell]
            have o2 : U2.cell? ⟨wo.heap.size, 2, none⟩ = some (.slice va xs.length vc) := cell_heapY B2 rfl
            have y0 : U2.cell? ⟨wr.heap.size, 0, none⟩ = some (.int .i64 x0) := cell_heapY T2 rfl
            have y1 : U2.cell? ⟨wr.heap.size, 1, none⟩ = some (.int .i64 x1) := cell_heapY T2 rfl
            have y2 : U2.cell? ⟨wr.heap.size, 2, none⟩ = some (.int .i64 x2) := cell_heapY T2 rfl
            have z3 : wr.heap.size < U2.heap.size := by omega
            have z4 : wo.heap.size < U2.heap.size := by omega
            have z7U : w7.heap.size ≤ U2.heap.size := hG2.size
            have HB2 := Lib.hid B2
            have HO2 := Lib.hid hO2
            have HG2 := Lib.hid hG2
            have q1 : xs.length + 1 ≤ maxLen := by unfold maxLen; omega
            have q2 : (xs.length + 1) * 32 ≤ 140737488355328 := by omega
            clear hU2 B2 T2 hO2 hG2 o0 o1 bf b2 z1 z2 hw2 hi2 HW2 zz2
            go_wp2_with (at_builtin; go_must (refine wpList_append_own _ rfl _ _ 123 rfl w7.heap.size 129 i1 (.agg #[.int .i64 0, .int .i64 0, .int .i64 0, .int .i64 0]) 4 32 Tryz.underlying123 hi hz0 hz1 hz2 rfl (by decide) _ _ _ rfl (HO2.out.alloc _) ⟨_, 0, none⟩ 1 1 (encAwd ⟨x0, x1, gq * 1000, x2⟩) rfl rfl (newsAwd _ _ (by simp) x0 x1 (gq * 1000) x2) (oneAwd _) q1 q2 (Nat.le_trans z7U (by simp)) ?_); intro v' w9 hown' hgrow _; obtain ⟨vb, vd, rfl⟩ := own_sl hown'; have HB9 := Lib.hid ((hgrow.block wo.heap.size (by simp; omega) (own_neT (by decide) HB2.out HO2.out)).trans ((heap_alloc_old U2 _ z4).trans HB2.out)); have k2 : w9.cell? ⟨wo.heap.size, 2, none⟩ = some (.slice va xs.length vc) := cell_heapY HB9.out rfl; have kf : w9.frozen? ⟨wo.heap.size, 2, none⟩ = false := frozen_of_row w9 _ _ _ _ HB9.out; have kz : wo.heap.size < w9.heap.size := (Array.getElem?_eq_some_iff.1 HB9.out).1; have HOW := Lib.hid hown'; have HGW := Lib.hid (grown_new (grownBy_trans HG2.out (World.grownBy_alloc U2 _ _)) hgrow (fun j hj => (HO2.out.lt j hj).1)); clear hown' hgrow)
            clear hw1 hi1 HW1
            go_roundw
            case rel => exact ⟨i + 1, .slice vb (xs.length + 1) vd, by omega, by go_num, by rw [HE.out.2.1, HE.out.2.2, heap_setCell_same _ _ 2 _ _ _ HB9.out]; rfl, by rw [HE.out.1, flatE_snoc, List.length_append]; exact own_set (by decide) HB9.out HOW.out, grownBy_trans HGW.out (grownBy_setCell _ _ _ _)⟩
            case measure => simp [intOf]; omega
        · have hki : i = k := by omega
          subst hki
          have hwl := wdT_len Q F i
          have hn12 : i ≤ 12 := by omega
          have KW := Lib.hid (sortW_own 211 #[] cmpW (fun _ => True) w7.heap.size av (wdT Q F i) wr egW (fun W x y _ _ => wcompare_any x.bd x.num x.a x.p y.bd y.num y.a y.p W) cmpW_wk (fun _ _ => trivial) haw (by omega))
          have zB : wo.heap.size < wr.heap.size := (Array.getElem?_eq_some_iff.1 hbx).1
          have hXr := (hgr.block (w.heap.size + 1) (by have := HB7.out.size; have := (Array.getElem?_eq_some_iff.1 HXR7.out).1; omega) (by simp; omega)).trans HXR7.out
          have hBr : Below w.heap.size w wr := HB7.out.grown hgr (HB7.out.size) (fun q hq => by cases hq; omega)
          obtain ⟨C9, hC9⟩ : ∃ c, ctT Q F i = c := ⟨_, rfl⟩
          obtain ⟨S9, hS9⟩ : ∃ c, slT F i = c := ⟨_, rfl⟩
          rw [hC9, hS9] at hbx
          obtain ⟨xs, hxs⟩ : ∃ xs, wdT Q F i = xs := ⟨_, rfl⟩
          rw [hxs] at KW haw hwl
          obtain ⟨va, vc, rfl⟩ := own_sl haw
          have hne : ∀ b, b < w7.heap.size → some b ≠ (Value.slice va xs.length vc).ownBlock := fun b hb e => by have := (haw.lt b e.symm).1; omega
          have zo7 : wo.heap.size < w7.heap.size := (Array.getElem?_eq_some_iff.1 HBO7.out).1
          have zx7 : w.heap.size + 1 < w7.heap.size := (Array.getElem?_eq_some_iff.1 HXR7.out).1
          have o2 : wr.cell? ⟨wo.heap.size, 2, none⟩ = some (.slice va xs.length vc) := cell_heapY hbx rfl
          have HBX := Lib.hid hbx
          have HXX := Lib.hid hXr
          have HBB := Lib.hid hBr
          have HEQ := Lib.hid (And.intro hC9 (And.intro hS9 hxs))
          have hw7 := Lib.hid HB7.out.size
          clear hbx haw hgr hXr hBr hC9 hS9 hxs
          go_wp2_with fail
          refine KW.out.mono ?_
          rintro e w9 ⟨rfl, ho9, hg9⟩
          have hbx9 := (hg9.block wo.heap.size zB (hne _ zo7)).trans HBX.out
          have hxx9 := (hg9.block (w.heap.size + 1) (Array.getElem?_eq_some_iff.1 HXX.out).1 (hne _ zx7)).trans HXX.out
          have hbb9 := HBB.out.grown hg9 (by have := (Array.getElem?_eq_some_iff.1 HXX.out).1; omega) (fun q hq => by have h1 := hne q; have h2 := hw7.out; rcases Nat.lt_or_ge q w7.heap.size with h | h; (exact absurd hq.symm (h1 h)); omega)
          have r0 : w9.cell? ⟨wo.heap.size, 0, none⟩ = some (.int .i64 C9) := cell_heapY hbx9 rfl
          have r1 : w9.cell? ⟨wo.heap.size, 1, none⟩ = some (.int .i64 S9) := cell_heapY hbx9 rfl
          have r2 : w9.cell? ⟨wo.heap.size, 2, none⟩ = some (.slice va xs.length vc) := cell_heapY hbx9 rfl
          have t0 : w9.cell? ⟨w.heap.size + 1, 0, none⟩ = some (.int .i64 0) := cell_heapY hxx9 rfl
          have t1 : w9.cell? ⟨w.heap.size + 1, 1, none⟩ = some (.int .i64 0) := cell_heapY hxx9 rfl
          have t2 : w9.cell? ⟨w.heap.size + 1, 2, none⟩ = some (.slice none 0 0) := cell_heapY hxx9 rfl
          have tf : ∀ o, w9.frozen? ⟨w.heap.size + 1, o, none⟩ = false := fun o => frozen_of_row w9 _ _ _ _ hxx9
          have hzx : w.heap.size + 1 < w9.heap.size := (Array.getElem?_eq_some_iff.1 hxx9).1
          have hzo : wo.heap.size < w9.heap.size := (Array.getElem?_eq_some_iff.1 hbx9).1
          have hneq : ¬ wo.heap.size = w.heap.size + 1 := by omega
          have hf1 := own_set (o := 0) (u := .int .i64 C9) (by decide) hxx9 ho9
          have hR1 := heap_setCell_same w9 _ 0 _ _ (.int .i64 C9) hxx9
          have hf2 := own_set (o := 1) (u := .int .i64 S9) (by decide) hR1 hf1
          have hR2 := heap_setCell_same _ _ 1 _ _ (.int .i64 S9) hR1
          have hf3 := own_set (o := 2) (u := .slice va xs.length vc) (by decide) hR2 hf2
          have HFIN := Lib.hid (And.intro (ownsRow_baseZ hf3 (show w.heap.size ≤ w7.heap.size by omega)) (bset3 hbb9 (b := w.heap.size + 1) (by omega) (.int .i64 C9) (.int .i64 S9) (.slice va xs.length vc)))
          clear hbx9 hxx9 hbb9 hf1 hf2 hf3 hR1 hR2 ho9 hg9 hne
          go_wp2
          refine bodyPost_ret (v := .tuple #[.agg #[.int .i64 C9, .int .i64 S9, .slice va xs.length vc], .int .i64 0]) (by simp [results, Tryz.results100, go_sem, *]) rfl ⟨.slice va xs.length vc, by rw [HFE.out, HN.out, HEQ.out.1, HEQ.out.2.1], by rw [HFE.out, HN.out, HEQ.out.2.2, srt_length]; exact HFIN.out.1, HFIN.out.2⟩
/-- what a bid got -/
def gvAY : List Awd → Int → Int → Int
  | [], _, _ => 0
  | x :: A, b, n => if x.bd = b ∧ x.num = n then x.a else gvAY A b n
set_option maxHeartbeats 4000000 in
set_option maxRecDepth 100000 in
theorem rgiven_any (P : Nat → Prop) (cut sold : Int) (av : Value) (A : List Awd) (b n : Int) (w : World) (hS : Sl 4 encAwd P w av A) (hl : A.length ≤ 1000) :
    Calls Tryz.prog 191 #[.agg #[.int .i64 cut, .int .i64 sold, av], .int .i64 b, .int .i64 n] w fun e w' => e = .returned (.int .i64 (gvAY A b n)) ∧ Below w.heap.size w w' := by
  obtain ⟨aa, m, ac, rfl, hm, -, -⟩ := hS.shape
  have hm1 : m ≤ 1000 := by omega
  obtain ⟨V, hV⟩ : ∃ V, gvAY A b n = V := ⟨_, rfl⟩
  rw [hV]
  have HS := Lib.hid hS
  have HM := Lib.hid hm
  have HV := Lib.hid hV
  clear hS hm hl hV
  go_enter Tryz.func191, Tryz.ntmps191
  go_wp2
  go_loopw [12] (fun iv wr => ∃ k : Nat, k ≤ m ∧ iv = .int .i64 k ∧ V = gvAY (A.drop k) b n ∧ Below w.heap.size w wr) (fun iv _ => m - (intOf iv).toNat)
  case atStart => exact ⟨0, by omega, rfl, by rw [List.drop_zero]; exact HV.out.symm, bal brefl _⟩
  case round =>
    obtain ⟨k, hk, rfl, hv, hbr⟩ := hrel
    have zr := hbr.size
    by_cases hlt : k < m
    · obtain ⟨bb, off, x0, x1, x2, x3, rfl, -, hbb, hx, k0, k1, k2, k3⟩ := (HS.out.below hbr).awd hlt
      have hkz : (k : Int) < (m : Int) := by omega
      rw [drop_cons hx] at hv
      simp only [gvAY] at hv
      have HVV := Lib.hid hv
      have HBR := Lib.hid hbr
      clear hx hv hbr
      by_cases h0 : x0 = b
      · subst h0
        by_cases h1 : x1 = n
        · subst h1
          have hf := Lib.hid (show V = x2 by rw [HVV.out, if_pos ⟨rfl, rfl⟩])
          go_wp2
          go_ret
          exact ⟨ret_int hf.out.symm, bal HBR.out _⟩
        · have hf := Lib.hid (show V = gvAY (A.drop (k + 1)) x0 n by rw [HVV.out, if_neg (fun h => h1 h.2)])
          have h1' : (x1 == n) = false := by simpa using h1
          go_wp2
          go_roundw
          case rel => exact ⟨k + 1, by omega, by go_num, hf.out, bal HBR.out _⟩
          case measure => simp [intOf]; omega
      · have hf := Lib.hid (show V = gvAY (A.drop (k + 1)) b n by rw [HVV.out, if_neg (fun h => h0 h.1)])
        have h0' : (x0 == b) = false := by simpa using h0
        go_wp2
        go_roundw
        case rel => exact ⟨k + 1, by omega, by go_num, hf.out, bal HBR.out _⟩
        case measure => simp [intOf]; omega
    · have hf := Lib.hid (show V = 0 by rw [hv, List.drop_of_length_le (by have := HM.out; omega)]; rfl)
      clear hv
      go_wp2
      go_ret
      exact ⟨ret_int hf.out.symm, hbr⟩
set_option maxHeartbeats 4000000 in
set_option maxRecDepth 100000 in
theorem rsame_eq (P Q : Nat → Prop) (cut sold : Int) (av bv : Value) (A : List Awd) (w : World) (hS : Sl 4 encAwd P w av A) (hT : Sl 4 encAwd Q w bv A) (hl : A.length ≤ 1000) :
    Calls Tryz.prog 101 #[.agg #[.int .i64 cut, .int .i64 sold, av], .agg #[.int .i64 cut, .int .i64 sold, bv]] w fun e w' => e = .returned (.bool true) ∧ Below w.heap.size w w' := by
  obtain ⟨aa, m, ac, rfl, hm, -, -⟩ := hS.shape
  obtain ⟨ba, m', bc, rfl, hm', -, -⟩ := hT.shape
  obtain rfl : m' = m := by omega
  have hm1 : m' ≤ 1000 := by omega
  have HS := Lib.hid hS
  have HT := Lib.hid hT
  have HM := Lib.hid hm
  clear hS hT hm hm' hl
  go_enter Tryz.func101, Tryz.ntmps101
  go_wp2
  go_loopw [30] (fun iv wr => ∃ k : Nat, k ≤ m' ∧ iv = .int .i64 k ∧ Below w.heap.size w wr ∧ wr.cell? ⟨w.heap.size, 2, none⟩ = some (.slice aa m' ac) ∧ wr.cell? ⟨w.heap.size + 1, 2, none⟩ = some (.slice ba m' bc)) (fun iv _ => m' - (intOf iv).toNat)
  case atStart => exact ⟨0, by omega, rfl, bal (bal brefl _) _, by go_simp, by go_simp⟩
  case round =>
    obtain ⟨k, hk, rfl, hbr, ca, cb⟩ := hrel
    have zr := hbr.size
    by_cases hlt : k < m'
    · obtain ⟨bb, off, x0, x1, x2, x3, rfl, -, hbb, hx, k0, k1, k2, k3⟩ := (HS.out.below hbr).awd hlt
      obtain ⟨bb', off', y0, y1, y2, y3, rfl, -, hbb', hy, j0, j1, j2, j3⟩ := (HT.out.below hbr).awd hlt
      rw [hx] at hy
      cases hy
      have hkz : (k : Int) < (m' : Int) := by omega
      have hk0 : 0 ≤ (k : Int) := by omega
      have HBR := Lib.hid hbr
      clear hx hbr
      go_wp2_with fail
      go_quiet (fail)
      go_wp2
      go_roundw
      case rel => exact ⟨k + 1, by omega, by go_num, bdrN HBR.out, ca, cb⟩
      case measure => simp [intOf]; omega
    · have HBR := Lib.hid hbr
      clear hbr
      go_wp2
      go_ret
      exact ⟨rfl, HBR.out⟩
/-! sorting told without well-founded recursion -/
def insJ {α : Type} (lt : α → α → Bool) (x : α) : List α → List α
  | [] => [x]
  | y :: L => if lt y x then y :: insJ lt x L else x :: y :: L
def srtJ {α : Type} (lt : α → α → Bool) : List α → List α
  | [] => []
  | x :: L => insJ lt x (srtJ lt L)
theorem insJ_eq {α : Type} (lt : α → α → Bool) (x : α) : ∀ L : List α, mrg lt [x] L = insJ lt x L
  | [] => by rw [mrg_nil_r]; rfl
  | y :: L => by rw [mrg_cons, insJ_eq lt x L, mrg_nil_l]; rfl
theorem srtJ_eq {α : Type} (lt : α → α → Bool) : ∀ L : List α, srt lt L = srtJ lt L
  | [] => rfl
  | x :: L => by rw [srt, insJ_eq, srtJ_eq lt L]; rfl
/-- the tenders of the example -/
def twoL : List Tdr := [⟨1, 1, 101000, 3000⟩, ⟨2, 1, 100000, 4000⟩]
theorem twoOk : ∀ x ∈ twoL, TdrOk x := by
  intro x hx
  simp only [twoL, List.mem_cons, List.not_mem_nil, or_false] at hx
  rcases hx with rfl | rfl <;> exact ⟨by decide, by decide, by decide, by decide, by decide, by decide, by decide, by decide, by decide⟩
theorem twoK : KeysT twoL := by unfold KeysT twoL; simp
theorem two_p : bkP twoL 200000 = [⟨2, 1, 100000, 4000⟩, ⟨1, 1, 101000, 3000⟩] := by unfold bkP srT; rw [srtJ_eq, srtJ_eq]; kernel_rfl
theorem two_f : bkF twoL 5000 200000 = [4, 1] := by unfold bkF; rw [two_p]; kernel_rfl
theorem two_c : bkC twoL 5000 200000 = 101000 := by unfold bkC; rw [two_p, two_f]; kernel_rfl
theorem two_s : bkS twoL 5000 200000 = 5000 := by unfold bkS; rw [two_p, two_f]; kernel_rfl
theorem two_a : bkA twoL 5000 200000 = [⟨1, 1, 1000, 101000⟩, ⟨2, 1, 4000, 100000⟩] := by unfold bkA; rw [two_p, two_f, srtJ_eq]; kernel_rfl
theorem sl_two {w : World} {g : Nat} (h : w.heap[g]? = some (.cells #[.int .i64 1, .int .i64 1, .int .i64 101000, .int .i64 3000, .int .i64 2, .int .i64 1, .int .i64 100000, .int .i64 4000] 122 (0, 0))) : Sl 4 encTdr (fun _ => True) w (.slice (some ⟨g, 0, none⟩) 2 2) twoL := by
  have hl : g < w.heap.size := (Array.getElem?_eq_some_iff.1 h).1
  refine ⟨_, 2, 2, rfl, rfl, Nat.le_refl _, by unfold maxLen; omega, .inr ⟨g, 0, rfl, trivial, hl, fun k x hk i u hi => ?_⟩⟩
  have hk2 : k < 2 := by have := (List.getElem?_eq_some_iff.1 hk).1; simpa [twoL] using this
  have hi4 : i < 4 := by have := (List.getElem?_eq_some_iff.1 hi).1; simpa [encTdr] using this
  rcases (show k = 0 ∨ k = 1 by omega) with rfl | rfl <;>
    (simp only [twoL, List.getElem?_cons_zero, List.getElem?_cons_succ, Option.some.injEq] at hk; subst hk; rcases (show i = 0 ∨ i = 1 ∨ i = 2 ∨ i = 3 by omega) with rfl | rfl | rfl | rfl <;> (simp [encTdr] at hi; subst hi; exact cell_heapY h rfl))
set_option maxHeartbeats 8000000 in
set_option maxRecDepth 100000 in
theorem sane38_any (w : World) : Calls Tryz.prog 91 #[] w fun e w' => e = .returned (.bool true) ∧ Below w.heap.size w w' := by
  have KH := Lib.hid (fun (U : World) (v : Value) (hS : Sl 4 encTdr (fun _ => True) U v twoL) => bhold_any (fun _ => True) v twoL 5000 200000 U hS twoOk twoK (by decide) (by decide) (by decide) (by decide) (by decide) (by decide))
  rw [two_c, two_s, two_a] at KH
  have KG := Lib.hid (fun (U : World) (av : Value) (b n : Int) (hS : Sl 4 encAwd (fun _ => True) U av [⟨1, 1, 1000, 101000⟩, ⟨2, 1, 4000, 100000⟩]) => rgiven_any (fun _ => True) 101000 5000 av _ b n U hS (by decide))
  go_enter Tryz.func91, Tryz.ntmps91
  go_wp2_with fail
  refine (KH.out _ _ (sl_two (heap_alloc_new _ _))).mono ?_
  rintro e w2 ⟨av, rfl, ho2, hb2⟩
  have hA2 : Sl 4 encAwd (fun _ => True) w2 av [⟨1, 1, 1000, 101000⟩, ⟨2, 1, 4000, 100000⟩] := Sl.own encAwd_len ho2 rfl (fun _ _ => trivial)
  obtain ⟨aa, ac, rfl⟩ := own_sl ho2
  have HA2 := Lib.hid hA2
  have HB2 := Lib.hid (bup (bal brefl _) hb2)
  clear ho2 hb2 hA2
  go_wp2_with fail
  refine (KG.out _ _ 2 1 (HA2.out.below (bal brefl _))).mono ?_
  rintro e w3 ⟨rfl, hb3⟩
  have HB3 := Lib.hid (bup (bal brefl _) hb3)
  have c0 : w3.cell? ⟨w2.heap.size, 0, none⟩ = some (.int .i64 101000) := boxed_cell hb3 0 rfl
  have c1 : w3.cell? ⟨w2.heap.size, 1, none⟩ = some (.int .i64 5000) := boxed_cell hb3 1 rfl
  have c2 : w3.cell? ⟨w2.heap.size, 2, none⟩ = some (.slice aa [(⟨1, 1, 1000, 101000⟩ : Awd), ⟨2, 1, 4000, 100000⟩].length ac) := boxed_cell hb3 2 rfl
  clear hb3
  have e1 : gvAY [⟨1, 1, 1000, 101000⟩, ⟨2, 1, 4000, 100000⟩] 2 1 = 4000 := by decide
  have e2 : gvAY [⟨1, 1, 1000, 101000⟩, ⟨2, 1, 4000, 100000⟩] 1 1 = 1000 := by decide
  simp only [List.length_cons, List.length_nil, Nat.reduceAdd] at c2
  go_wp2_with fail
  refine (KG.out _ _ 1 1 (HA2.out.below HB3.out)).mono ?_
  rintro e w4 ⟨rfl, hb4⟩
  go_wp2
  go_ret
  exact ⟨ret_bool (by first | rfl | simp [e1, e2]), bup HB2.out (bup HB3.out hb4)⟩
set_option maxHeartbeats 16000000 in
set_option maxRecDepth 100000 in
theorem bsaves_walk (k0 : Option Addr) (len0 cap0 : Nat) (t : Int) (w : World) (h1 : len0 ≤ cap0) (h2 : cap0 ≤ maxLen) (hz : len0 = 0 ∨ ∃ b off, k0 = some ⟨b, off, none⟩ ∧ ∀ i, i < len0 → ∃ z : Int, w.cell? ⟨b, off + i, none⟩ = some (.int .i64 z)) (x0 : 0 ≤ t) (x1 : t ≤ 255) :
    Calls Tryz.prog 8 #[.slice k0 len0 cap0, .int .u8 t] w fun e w' => e = .returned (.bool true) ∧ Below w.heap.size w w' := by
  go_enter Tryz.func8, Tryz.ntmps8
  go_wp2_with fail
  refine (new_any k0 len0 cap0 w h1 h2 hz).mono ?_
  rintro e w1 ⟨sb, rfl, hsb, hS1, hB1⟩
  clear hz
  have HB1 := Lib.hid hB1
  clear hB1
  go_wp2_with fail
  refine (market38_any sb _ hS1).mono ?_
  rintro e w2 ⟨vs, vh, vm, un, ra, L, rfl, hL4, hea, hR, hS2, hG2⟩
  obtain ⟨a0, n0, c0, rfl, -, -, -⟩ := hR.S.shape
  obtain ⟨a1, n1, c1, rfl, -, -, -⟩ := hR.H.shape
  obtain ⟨a2, n2, c2, rfl, -, -, -⟩ := hR.M.shape
  have hra : ra = 1000 ∨ ra = 5000 := (ur_cases hea.ur).2
  have hok := hea.ok
  obtain ⟨l1, l2, l3⟩ : (eR un ra L).secs.length ≤ 1000000 ∧ (eR un ra L).hs.length ≤ 1000000 ∧ (eR un ra L).ms.length ≤ 1000000 := ⟨by have := hok.ls; omega, by have := hok.hl; omega, by have := hok.lm; omega⟩
  have HB2 := Lib.hid (HB1.out.trans (below_of_grown hG2 hsb HB1.out.size))
  have HEA := Lib.hid hea
  obtain ⟨W3, hW3⟩ : ∃ W, w2.alloc (.cells #[.slice a0 n0 c0, .slice a1 n1 c1, .slice a2 n2 c2] 31 (0, 0)) = W := ⟨_, rfl⟩
  have hb3 : Below w2.heap.size w2 W3 := by rw [← hW3]; exact bal brefl _
  have hx3 : W3.heap[w2.heap.size]? = some (.cells #[.slice a0 n0 c0, .slice a1 n1 c1, .slice a2 n2 c2] 31 (0, 0)) := by rw [← hW3]; exact heap_alloc_new w2 _
  have HX3 := Lib.hid hx3
  have hzB : w2.heap.size < W3.heap.size := (Array.getElem?_eq_some_iff.1 hx3).1
  have HB3 := Lib.hid (bup HB2.out hb3)
  have HR3 := Lib.hid (hR.below hb3)
  have HW3 := Lib.hid hW3
  have hf : findS (eR un ra L).secs 1 = some (m38S un ra) := by simp [eR, findS, m38S]
  have KF := Lib.hid (fun U (hU : Below W3.heap.size W3 U) => ffind_yes _ _ _ _ (eR un ra L) 1 1 un 0 1800 ra 6 false U (HR3.out.below hU) l1 hf)
  have KV := Lib.hid (fun (y : Int) U (hU : Below W3.heap.size W3 U) (hy : 0 ≤ y ∧ y ≤ 6) => (sav38 HEA.out (show 0 ≤ t ∧ t ≤ 255 from ⟨x0, x1⟩) hy) ▸ saved_any _ _ _ _ (eR un ra L) 1 t y U (HR3.out.below hU) l1 l2 l3)
  have KN := Lib.hid (fun U (hU : Below W3.heap.size W3 U) => (sav38_no HEA.out t 3) ▸ saved_any _ _ _ _ (eR un ra L) 9 t 3 U (HR3.out.below hU) l1 l2 l3)
  have HCP := Lib.hid (cpn38 hea.ur)
  have HDY := Lib.hid (days38 hea.ur)
  have hwt : IntKind.i64.wrap t = t := IntWalk.i64_in _ (by omega)
  have y0 := cell_heap (i := 0) hx3 rfl
  have y1 := cell_heap (i := 1) hx3 rfl
  have y2 := cell_heap (i := 2) hx3 rfl
  clear hea hok hR hG2 hW3 hb3 hx3 hf hS1 hS2 l1 l2 l3
  go_upto_region 4 with fail
  rw [HW3.out]
  go_wp2_with fail
  refine (KF.out _ brefl).mono ?_
  rintro e w4 ⟨rfl, hb4⟩
  obtain ⟨W5, hW5⟩ : ∃ W, w4.alloc (.cells #[.int .i64 1, .int .i64 un, .int .i64 0, .int .i64 1800, .int .i64 ra, .int .i64 6, .bool false] 26 (0, 0)) = W := ⟨_, rfl⟩
  have hb5 : Below W3.heap.size W3 W5 := by rw [← hW5]; exact bal hb4 _
  have hs5 : W5.heap[w4.heap.size]? = some (.cells #[.int .i64 1, .int .i64 un, .int .i64 0, .int .i64 1800, .int .i64 ra, .int .i64 6, .bool false] 26 (0, 0)) := by rw [← hW5]; exact heap_alloc_new w4 _
  have HX5 := Lib.hid ((hb5.block _ hzB).trans HX3.out)
  have HS5 := Lib.hid hs5
  have HB5 := Lib.hid hb5
  have HW5 := Lib.hid hW5
  have hzS : w4.heap.size < W5.heap.size := (Array.getElem?_eq_some_iff.1 hs5).1
  have hzB5 : w2.heap.size < W5.heap.size := (Array.getElem?_eq_some_iff.1 HX5.out).1
  clear hb4 hb5 hs5 hW5 y0 y1 y2
  go_upto_region 5 with fail
  rw [HW5.out]
  go_wp2
  go_loopw [10, 11] (fun lv yv wr => ∃ (y l : Int), yv = .int .i64 y ∧ lv = .int .i64 l ∧ (0 ≤ y ∧ y ≤ 7) ∧ (y = 0 → l = 0) ∧ (1 ≤ y → l = svY ra t (y - 1)) ∧ Below W5.heap.size W5 wr) (fun _ yv _ => (7 - intOf yv).toNat)
  case atStart => exact ⟨0, 0, rfl, rfl, by omega, fun _ => rfl, fun h => by omega, brefl⟩
  case round =>
    obtain ⟨y, l, rfl, rfl, hy, hl0, hl1, hbr⟩ := hrel
    have HBR := Lib.hid hbr
    have hxr := (hbr.block _ hzB5).trans HX5.out
    by_cases hy6 : y ≤ 6
    · obtain ⟨V, hV⟩ : ∃ V, svY ra t y = V := ⟨_, rfl⟩
      have hle : l ≤ V := by
        rw [← hV]
        by_cases h0 : y = 0
        · rw [hl0 h0, h0, svY_zero]; exact Int.le_refl _
        · rw [hl1 (by omega)]; exact svY_mono (by omega) (by omega)
      have hz0 : y = 0 → V = 0 := fun h0 => by rw [← hV, h0, svY_zero]
      have KX := Lib.hid (fun U hU => hV ▸ KV.out y U hU (by omega))
      have HV := Lib.hid hV
      have y0 := cell_heap (i := 0) hxr rfl
      have y1 := cell_heap (i := 1) hxr rfl
      have y2 := cell_heap (i := 2) hxr rfl
      have d1 : decide (V < l) = false := by simp; omega
      clear hl0 hl1 hbr hxr hV
      go_wp2_with fail
      refine (KX.out _ (bup HB5.out HBR.out)).mono ?_
      rintro e w6 ⟨rfl, hb6⟩
      have HB6 := Lib.hid (bup HBR.out hb6)
      have hwy : IntKind.i64.wrap (y + 1) = y + 1 := IntWalk.i64_in _ (by omega)
      have HN := Lib.hid (show V = svY ra t (y + 1 - 1) by rw [← HV.out]; congr 1; omega)
      clear hb6 y0 y1 y2
      by_cases h0 : y = 0
      · have hv0 := hz0 h0
        subst h0 hv0
        clear hz0
        go_wp2
        go_roundw
        case rel => exact ⟨1, 0, by go_num, rfl, by omega, fun h => by omega, fun _ => HN.out, HB6.out⟩
        case measure => simp [intOf]
      · have e0 : (y == 0) = false := by simpa using h0
        clear hz0
        go_wp2
        go_roundw
        case rel => exact ⟨y + 1, V, by go_num, rfl, by omega, fun h => by omega, fun _ => HN.out, HB6.out⟩
        case measure => simp [intOf]; omega
    · have hy7 : y = 7 := by omega
      subst hy7
      have hlv : l = svY ra t 6 := hl1 (by omega)
      have hsr := (hbr.block _ hzS).trans HS5.out
      have s0 := cell_heap (i := 0) hsr rfl
      have s1 := cell_heap (i := 1) hsr rfl
      have s2 := cell_heap (i := 2) hsr rfl
      have s3 := cell_heap (i := 3) hsr rfl
      have s4 := cell_heap (i := 4) hsr rfl
      have s5 := cell_heap (i := 5) hsr rfl
      have s6 := cell_heap (i := 6) hsr rfl
      have KC := Lib.hid (fun U => r34coupon_any 1 un 0 1800 ra 6 false 100000 U)
      rw [HCP.out.1, HCP.out.2] at KC
      obtain ⟨C, hC⟩ : ∃ C, ra / 2 = C := ⟨_, rfl⟩
      rw [hC] at KC
      have hCb : 0 ≤ C ∧ C ≤ 2500 := by omega
      have HC := Lib.hid hC
      have HLV := Lib.hid hlv
      have HXR := Lib.hid hxr
      have HSR := Lib.hid hsr
      clear hl0 hl1 hlv hbr hxr hC hsr hy6 hy
      go_wp2_with fail
      refine (KC.out _).mono ?_
      rintro e w6 ⟨rfl, hb6⟩
      have HB6 := Lib.hid (bup HBR.out hb6)
      have HX6 := Lib.hid ((hb6.block _ (Array.getElem?_eq_some_iff.1 HXR.out).1).trans HXR.out)
      have hs6 := (hb6.block _ (Array.getElem?_eq_some_iff.1 HSR.out).1).trans HSR.out
      clear hb6 s0 s1 s2 s3 s4 s5 s6
      have s0 := cell_heap (i := 0) hs6 rfl
      have s1 := cell_heap (i := 1) hs6 rfl
      have s2 := cell_heap (i := 2) hs6 rfl
      have s3 := cell_heap (i := 3) hs6 rfl
      have s4 := cell_heap (i := 4) hs6 rfl
      have s5 := cell_heap (i := 5) hs6 rfl
      have s6 := cell_heap (i := 6) hs6 rfl
      clear hs6
      go_wp2_with fail
      refine (r34daysD_any 1 un 0 1800 ra 6 false _).mono ?_
      intro e w7 hdm
      obtain ⟨v, rfl, hsl, hb7⟩ := daysMade_sl 1 un 0 1800 ra 6 false hdm
      rw [HDY.out] at hsl
      obtain ⟨ao, n, c, rfl, hn, -, -⟩ := hsl.shape
      have hn10 : n = 10 := by rw [← hn]; rfl
      subst hn10
      have HSL := Lib.hid hsl
      have HB7 := Lib.hid (bup HB6.out hb7)
      have HX7 := Lib.hid ((hb7.block _ (Array.getElem?_eq_some_iff.1 HX6.out).1).trans HX6.out)
      clear hdm hsl hb7 hn s0 s1 s2 s3 s4 s5 s6
      go_wp2
      go_loopw [15, 57] (fun cv jv wq => ∃ (j : Nat) (q : Int), j ≤ 10 ∧ jv = .int .i64 j ∧ cv = .int .i64 q ∧ q = cntD (t + 1) (t + 360 * 6) (svD38.take j) ∧ wq = w7) (fun _ jv _ => 10 - (intOf jv).toNat)
      case atStart => exact ⟨0, 0, by omega, rfl, rfl, by simp [cntD], rfl⟩
      case round =>
        obtain ⟨j, q, hj, rfl, rfl, hq, hwq⟩ := hrel
        obtain rfl := hwq.symm
        have hqb := cntD_bd (t + 1) (t + 360 * 6) (svD38.take j)
        rw [← hq] at hqb
        have htl : (svD38.take j).length ≤ j := by rw [List.length_take]; omega
        have hq10 : q ≤ 10 := by omega
        have hq0 := hqb.1
        have HQ := Lib.hid hq
        clear hq hqb htl
        by_cases hjl : j < 10
        · obtain ⟨b, off, d, rfl, -, hb', hd, k0'⟩ := HSL.out.int hjl
          have hlate := late38 (List.mem_of_getElem? hd) x0
          have HT := Lib.hid (take_snocZ hd)
          by_cases hdt : t < d
          · have hnx := Lib.hid (show q + 1 = cntD (t + 1) (t + 360 * 6) (svD38.take (j + 1)) by rw [HT.out, cntD_append, ← HQ.out]; simp only [cntD]; rw [if_pos (hlate.2 hdt)]; rfl)
            clear hlate hd
            go_wp2
            go_roundw
            case rel => exact ⟨j + 1, q + 1, by omega, by go_num, by go_num, hnx.out, by first | rfl | trivial⟩
            case measure => simp [intOf]; omega
          · have hnx := Lib.hid (show q = cntD (t + 1) (t + 360 * 6) (svD38.take (j + 1)) by rw [HT.out, cntD_append, ← HQ.out]; simp only [cntD]; rw [if_neg (fun h => hdt (hlate.1 h))]; simp)
            clear hlate hd
            go_wp2
            go_roundw
            case rel => exact ⟨j + 1, q, by omega, by go_num, rfl, hnx.out, by first | rfl | trivial⟩
            case measure => simp [intOf]; omega
        · have hj10 : j = 10 := by omega
          subst hj10
          obtain ⟨m0, m1⟩ := mul_bd hCb.1 hCb.2 hq0 hq10
          have hwm : wrap64 (C * q) = C * q := IntWalk.wrap64_in _ (by omega)
          have hle : l = C * q := by rw [HLV.out, HQ.out, ← HC.out]; rfl
          subst hle
          have y0 := cell_heap (i := 0) HX7.out rfl
          have y1 := cell_heap (i := 1) HX7.out rfl
          have y2 := cell_heap (i := 2) HX7.out rfl
          have e1 : (C * q == C * q) = true := by simp
          go_wp2_with fail
          refine (KN.out _ (bup HB5.out HB7.out)).mono ?_
          rintro e w8 ⟨rfl, hb8⟩
          have HB8 := Lib.hid (bup HB7.out hb8)
          clear hb8 y0 y1 y2
          go_wp2_with fail
          refine (sane38_any _).mono ?_
          rintro e w9 ⟨rfl, hb9⟩
          go_wp2
          go_ret
          exact ⟨rfl, bup (bup HB3.out (bup HB5.out HB8.out)) hb9⟩
end Go.Proofs.YthjaofgdickkaaaGreat
