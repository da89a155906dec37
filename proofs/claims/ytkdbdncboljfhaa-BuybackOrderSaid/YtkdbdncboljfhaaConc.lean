/- slices.Concat at rows of numbers; slices.Grow of the nil slice. -/
import Derived.Test.YtkdbdncboljfhaaServ
import Derived.Lib.AppendZerosOnto
namespace Go.Proofs.Ytkdbdncboljfhaa
open Go.RowKit
set_option linter.unusedVariables false
set_option linter.unusedSimpArgs false
theorem wzC (z : Int) (h : -2000000000 ≤ z ∧ z ≤ 2000000000) : wrap64 z = z ∧ IntKind.i64.wrap z = z := ⟨IntWalk.wrap64_in _ (by omega), IntWalk.i64_in _ (by omega)⟩
theorem wpList_app_run {P : Program} {w : World} {ops : Array Oper} {rest : List Oper} {o : Oper} {a : Act} {Q : Exit → Act → World → Prop} (hgd : o.guard = none) (x y : Operand) (t tn : TypeId) (ho : o.op = .call { callee := .builtin .append, args := #[x, y], argTypes := #[t, tn] })
    (vx vy : Value) (hx : a.eval x = vx) (hy : a.eval y = vy) {v' : Value} {w' : World} (hrun : (Builtin.append_ #[t, tn] o.type #[vx, vy]).run P w = .ok v' w') (h : wpList P ops Q rest (a.put o.dst v') w') : wpList P ops Q (o :: rest) a w := by
  refine wpList_plain hgd fun K hK => ?_
  unfold Oper.wp
  simp [execOp, ho, resolve, invoke, builtin, hx, hy, hrun, Result.andThen]
  exact hK _ _ h
set_option maxHeartbeats 4000000 in
set_option maxRecDepth 100000 in
theorem grow0_any (n : Nat) (hn : n ≤ 1000000) (w : World) : Calls Try.prog 37 #[.slice none 0 0, .int .i64 n] w fun e w' => ∃ v, e = .returned v ∧ w'.ownsRow w.heap.size 3 1 v 0 [] ∧ Below w.heap.size w w' := by
  obtain ⟨i1, hi, hz0, hz1, hz2⟩ := info_parts infoInt
  have HW := Lib.hid (wzC (n : Int) (by omega))
  have hnn : ¬ ((n : Int) < 0) := by omega
  cases n with
  | zero =>
    clear HW
    go_enter Try.func37, Try.ntmps37
    go_wp2
    go_ret
    exact ⟨_, rfl, World.ownsRow_nil _ _ _ _, brefl⟩
  | succ n =>
    obtain ⟨m, hm⟩ : ∃ m, n + 1 = m := ⟨_, rfl⟩
    rw [hm] at HW hnn ⊢
    have hm0 : 0 < m := by omega
    have hm1 : m ≤ 1000000 := by omega
    have hmz : (0 : Int) < (m : Int) := by omega
    have hrz := Lib.run_append_nil_zeros w 22 3 22 3 i1 (.int .i64 0) .i64 .i64 Try.underlying22 Try.underlying3 hi hz0 m hm0 (by rw [hz1]; decide) (by omega) (by rw [hz2]; omega)
    have hG := grownCap_ge w m 0 3
    have hG2 := grownCap_le_maxLen w m 0 3 (by unfold maxLen; omega)
    obtain ⟨G, hGG⟩ : ∃ G, grownCap w m 0 3 = G := ⟨_, rfl⟩
    rw [hGG] at hrz hG hG2
    have hcs : (Builtin.zeroCells (Value.int .i64 0).cells m ++ Builtin.zeroCells (Value.int .i64 0).cells (G - m)).size = G * 1 := by
      simp [Builtin.zeroCells, Value.cells]; omega
    obtain ⟨C, hC⟩ : ∃ C, Builtin.zeroCells (Value.int .i64 0).cells m ++ Builtin.zeroCells (Value.int .i64 0).cells (G - m) = C := ⟨_, rfl⟩
    rw [hC] at hrz hcs
    have HF := Lib.hid (And.intro (World.ownsRow_made (base := w.heap.size) (e := 3) (size := 1) w.drew C G (Nat.le_refl _) hG2 hcs) (bal (bdr (brefl (w := w))) (.cells C 3 (0, 0))))
    obtain ⟨hwm, him⟩ := HW.out
    clear hC hcs hGG HW hm hi hz0 hz1 hz2
    go_enter Try.func37, Try.ntmps37
    go_wp2_with (at_builtin; refine wpList_app_run rfl _ _ 22 3 rfl _ _ rfl rfl hrz ?_)
    go_ret
    exact ⟨_, rfl, HF.out.1, HF.out.2⟩
/-- the lengths of the first k rows together -/
def lenT (GG : List (List Int)) (k : Nat) : Nat := ((GG.take k).map List.length).sum
theorem lenT_succ {GG : List (List Int)} {k : Nat} {G : List Int} (h : GG[k]? = some G) : lenT GG (k + 1) = lenT GG k + G.length := by
  unfold lenT
  rw [take_snocZ h, List.map_append, List.sum_append]; simp
theorem lenT_bd {GG : List (List Int)} (hk : ∀ g ∈ GG, g.length ≤ 100) : ∀ k, lenT GG k ≤ k * 100
  | 0 => by simp [lenT]
  | k + 1 => by
    have ih := lenT_bd hk k
    cases h : GG[k]? with
    | none =>
      have hl : GG.length ≤ k := by simpa using h
      unfold lenT at ih ⊢
      rw [List.take_of_length_le (show GG.length ≤ k + 1 by omega)]
      rw [List.take_of_length_le hl] at ih
      omega
    | some G => rw [lenT_succ h]; have := hk G (List.mem_of_getElem? h); omega
theorem flat_snoc {GG : List (List Int)} {k : Nat} {G : List Int} (h : GG[k]? = some G) : (GG.take (k + 1)).flatten = (GG.take k).flatten ++ G := by
  rw [take_snocZ h, List.flatten_append]; simp
theorem flat_len {GG : List (List Int)} (k : Nat) : (GG.take k).flatten.length = lenT GG k := by unfold lenT; rw [List.length_flatten]
theorem flatE_appZ {α : Type} {enc : α → List Value} (A B : List α) : flatE enc (A ++ B) = flatE enc A ++ flatE enc B := by simp [flatE]
set_option maxHeartbeats 4000000 in
set_option maxRecDepth 100000 in
theorem concat_any (P : Nat → Prop) (v : Value) (GG : List (List Int)) (w : World) (hS : SlsI P w v GG) (hn : GG.length ≤ 100) (hk : ∀ g ∈ GG, g.length ≤ 100) (hne : ∀ g ∈ GG, g ≠ []) :
    Calls Try.prog 23 #[v] w fun e w' => ∃ v', e = .returned v' ∧ w'.ownsRow w.heap.size 3 1 v' GG.flatten.length (flatE encI GG.flatten) ∧ Below w.heap.size w w' := by
  obtain ⟨ao, n, c, rfl, hnn, -, -⟩ := hS.shape
  have hn100 : n ≤ 100 := by omega
  have HS := Lib.hid hS
  have HN := Lib.hid hnn
  have HLB := Lib.hid (fun k => lenT_bd hk k)
  have HK := Lib.hid hk
  have HNE := Lib.hid hne
  obtain ⟨i1, hi, hz0, hz1, hz2⟩ := info_parts infoInt
  clear hS hnn hk hne hn
  go_enter Try.func23, Try.ntmps23
  go_wp2
  go_loopw [11, 3] (fun iv sv wr => ∃ k : Nat, k ≤ n ∧ iv = .int .i64 k ∧ sv = .int .i64 (lenT GG k : Nat) ∧ Below w.heap.size w wr) (fun iv _ _ => n - (intOf iv).toNat)
  case atStart => exact ⟨0, by omega, rfl, by simp [lenT], brefl⟩
  case round =>
    obtain ⟨k, hkn, rfl, rfl, hbr⟩ := hrel
    have zr := hbr.size
    have hlb := HLB.out k
    by_cases hlt : k < n
    · obtain ⟨bb, off, ga, gn, gc, G, rfl, -, hbb, hG, k0, hgn, hSG⟩ := (HS.out.below hbr).at_ hlt
      have hkz : (k : Int) < (n : Int) := by omega
      have hls := Lib.hid (lenT_succ hG)
      have hg100 := HK.out G (List.mem_of_getElem? hG)
      rw [hgn] at hg100
      obtain ⟨S, hSS⟩ : ∃ S, lenT GG k = S := ⟨_, rfl⟩
      rw [hSS] at hls hlb ⊢
      have HW := Lib.hid (wzC ((S : Int) + (gn : Int)) (by omega))
      have HWK := Lib.hid (wzC ((k : Int) + 1) (by omega))
      have hnz : ¬ ((S : Int) + (gn : Int) < 0) := by omega
      have HGN := Lib.hid hgn
      have HBR := Lib.hid hbr
      clear hG hSG hgn hbr hSS hlb hg100
      obtain ⟨hw1, hi1⟩ := HW.out
      go_wp2
      go_roundw
      case rel => exact ⟨k + 1, by clear hw1 hi1; omega, by clear hw1 hi1; go_num, by rw [hls.out, HGN.out]; rfl, HBR.out⟩
      case measure => clear hw1 hi1; simp [intOf]; omega
    · have hkn2 : k = n := by omega
      have HBR := Lib.hid hbr
      obtain ⟨S, hSS⟩ : ∃ S, lenT GG k = S := ⟨_, rfl⟩
      rw [hSS] at hlb ⊢
      have hS6 : S ≤ 1000000 := by omega
      obtain ⟨wo, hwo⟩ : ∃ u, u = wr := ⟨wr, rfl⟩
      subst hwo
      clear hbr hlb
      go_wp2_with fail
      refine (grow0_any S hS6 _).mono ?_
      rintro e w2 ⟨v2, rfl, ho2, hb2⟩
      have HO2 := Lib.hid (ownsRow_baseZ ho2 zr)
      have HB2 := Lib.hid (bup HBR.out hb2)
      clear ho2 hb2
      go_wp2
      go_loopw [27, 6] (fun iv ov wr => ∃ j : Nat, j ≤ n ∧ iv = .int .i64 j ∧ wr.ownsRow w.heap.size 3 1 ov (GG.take j).flatten.length (flatE encI (GG.take j).flatten) ∧ Below w.heap.size w wr) (fun iv _ _ => n - (intOf iv).toNat)
      case atStart => exact ⟨0, by omega, rfl, HO2.out, HB2.out⟩
      case round =>
        obtain ⟨j, hj, rfl, hown, hbr⟩ := hrel
        have zj := hbr.size
        by_cases hjt : j < n
        · obtain ⟨bb, off, ga, gn, gc, G, rfl, -, hbb, hG, k0, hgn, hSG⟩ := (HS.out.below hbr).at_ hjt
          have hjz : (j : Int) < (n : Int) := by omega
          have hm := List.mem_of_getElem? hG
          have hg100 := HK.out G hm
          have hgne := HNE.out G hm
          have hg0 : 0 < gn := by rw [← hgn]; exact List.length_pos_iff.2 hgne
          obtain ⟨ga', gn', gc', q1, q2, q3, q4, q5⟩ := hSG
          cases q1
          rcases q5 with q5 | ⟨gb, goff, q6, -, q7, q8⟩
          · omega
          subst q6
          have hsrc : ∀ (i : Nat) (u : Value), (flatE encI G)[i]? = some u → wr.cell? ((⟨gb, goff, none⟩ : Addr).add i) = some u := fun i u hiu => by
            rw [add_litZ]; exact flatE_cells encI_len G goff q8 i u hiu
          have hfl : (flatE encI G).length = gn * 1 := by rw [flatE_length encI_len, hgn]
          have e1 := flat_snoc hG
          have HE := Lib.hid e1
          have hbd := HLB.out j
          have hml : (GG.take j).flatten.length ≤ 10000 := by rw [flat_len]; omega
          have HSRC := Lib.hid hsrc
          have HFL := Lib.hid hfl
          have HGN := Lib.hid hgn
          have HOW := Lib.hid hown
          have HBR := Lib.hid hbr
          have HO1 := Lib.hid (oneE oneEI G)
          obtain ⟨X, hX⟩ : ∃ X, flatE encI G = X := ⟨_, rfl⟩
          rw [hX] at HSRC HFL HO1
          have HX := Lib.hid hX
          have gn100 : gn ≤ 100 := by omega
          clear hG hm hgne hsrc hfl e1 hgn hown hbr q2 q3 q4 q7 q8 hX hg100 hbd
          go_wp2_with (at_builtin; go_must (refine wpList_append_own _ rfl _ _ 22 rfl w.heap.size 3 i1 (.int .i64 0) 1 8 Try.underlying22 hi hz0 hz1 hz2 rfl (by decide) _ _ _ rfl HOW.out ⟨gb, goff, none⟩ gn gc X rfl HFL.out HSRC.out HO1.out (by unfold maxLen; omega) (by omega) (by omega) ?_); intro v' w9 hown' hgrow _)
          go_roundw
          case rel => exact ⟨j + 1, by omega, by go_num, by rw [HE.out, flatE_appZ, List.length_append, HGN.out, HX.out]; exact hown', HBR.out.grown hgrow zj (fun q hq => (HOW.out.lt q hq).1)⟩
          case measure => simp [intOf]; omega
        · have hjn : j = n := by omega
          have hf : (GG.take j).flatten = GG.flatten := by rw [List.take_of_length_le (by have := HN.out; omega)]
          rw [hf] at hown
          have HF := Lib.hid (And.intro hown hbr)
          clear hown hbr hf
          go_wp2
          go_ret
          exact ⟨_, rfl, HF.out.1, HF.out.2⟩
end Go.Proofs.Ytkdbdncboljfhaa
