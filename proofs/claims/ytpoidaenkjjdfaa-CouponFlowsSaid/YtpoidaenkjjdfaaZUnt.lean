/- coupon.Until. Printed by wip/gen/unt.py. -/
import Derived.Test.YtpoidaenkjjdfaaZSums
import Derived.Test.YtpoidaenkjjdfaaZCal
import Derived.Test.YtpoidaenkjjdfaaZStFlowG
import Derived.Deep.AppendLies
namespace Go.Proofs.Ytpoidaenkjjdfaa
open Go.RowKit
set_option linter.unusedVariables false
set_option linter.unusedSimpArgs false
/-- the order of flows -/
def cfF (x y : Flow) : Int := cmpK x.day x.ref y.day y.ref
theorem cfF_wk : Wk (ltz cfF) := by
  constructor
  · intro x y h
    unfold ltz cfF at h ⊢
    have h1 := cmpK_cases x.day x.ref y.day y.ref
    have h2 := cmpK_cases y.day y.ref x.day x.ref
    rw [decide_eq_true_eq] at h
    rw [decide_eq_false_iff_not]
    omega
  · intro x y z h k
    unfold ltz cfF at h k ⊢
    have h1 := cmpK_cases x.day x.ref y.day y.ref
    have h2 := cmpK_cases y.day y.ref z.day z.ref
    have h3 := cmpK_cases x.day x.ref z.day z.ref
    rw [decide_eq_false_iff_not] at h k ⊢
    omega
theorem until1_any (x0 x1 x2 x3 y0 y1 y2 y3 : Int) (w : World) :
    Calls Try.prog 122 #[.agg #[.int .i64 x0, .int .i64 x1, .int .i64 x2, .int .i64 x3], .agg #[.int .i64 y0, .int .i64 y1, .int .i64 y2, .int .i64 y3]] w fun e w' => e = .returned (.int .i64 (cmpK x0 x3 y0 y3)) ∧ Below w.heap.size w w' := by
  obtain ⟨x, hx⟩ : ∃ x, cmpI x0 y0 = x := ⟨_, rfl⟩
  obtain ⟨y, hy⟩ : ∃ y, cmpI x3 y3 = y := ⟨_, rfl⟩
  have HX := Lib.hid hx
  have HY := Lib.hid hy
  have e := Lib.hid (show cmpK x0 x3 y0 y3 = orI x y by unfold cmpK; rw [hx, hy])
  clear hx hy
  go_enter Try.func122, Try.ntmps122
  go_wp2
  go_region_held3 (fun w' => w'.cell? ⟨w.heap.size, 0, none⟩ = some (.int .i64 x0) ∧ w'.cell? ⟨w.heap.size, 3, none⟩ = some (.int .i64 x3) ∧ w'.cell? ⟨w.heap.size + 1, 0, none⟩ = some (.int .i64 y0) ∧ w'.cell? ⟨w.heap.size + 1, 3, none⟩ = some (.int .i64 y3)) (first | go_keep) (first | (go_at_call 77; refine (compare_any _ _ _).mono ?_; (first | rw [HX.out] | rw [HY.out]); rintro e w' ⟨rfl, rfl⟩) | (go_at_call 123; refine (or2_any x y _ _ ?_ ?_).mono ?_; (· exact (World.cell?_alloc_at _ _ _ _ (by simp)).trans rfl); (· exact (World.cell?_alloc_at _ _ _ _ (by simp)).trans rfl); rintro e w' ⟨rfl, rfl⟩))
  go_wp2
  go_ret
  exact ⟨ret_int e.out.symm, bdr (bal (bal (bal brefl _) _) _)⟩
/-- a flow that is not 0 -/
def flF (x : Sec) (d c : Int) : List Flow := if 0 < c then [⟨nxD d, -c, 4, x.id⟩] else []
def flD (R : Reg) (x : Sec) (a b d : Int) : List Flow := if inB d a b = true then flF x d (smC x d R.hs) ++ flF x d (smP x d R.hs) else []
def flS (R : Reg) (a b : Int) (x : Sec) : List Flow := (duL x).flatMap (flD R x a b)
def flR (R : Reg) (a b : Int) : List Flow := R.secs.flatMap (flS R a b)
def unE (R : Reg) (a b : Int) : Int := if chkE R = 0 then (if inB a 0 35990 = true ∧ inB b 0 35990 = true then (if 400 < (flR R a b).length then 3 else 0) else 2) else chkE R
def unL (R : Reg) (a b : Int) : List Flow := if unE R a b = 0 then srt (ltz cfF) (flR R a b) else []
theorem flF_len (x : Sec) (d c : Int) : (flF x d c).length ≤ 1 := by unfold flF; split <;> simp
theorem flD_len (R : Reg) (x : Sec) (a b d : Int) : (flD R x a b d).length ≤ 2 := by
  unfold flD
  split
  · rw [List.length_append]; have := flF_len x d (smC x d R.hs); have := flF_len x d (smP x d R.hs); omega
  · simp
theorem flat_lenN {α β : Type} (N : Nat) (f : α → List β) (hf : ∀ x, (f x).length ≤ N) : ∀ L : List α, (L.flatMap f).length ≤ N * L.length
  | [] => by simp
  | x :: L => by
    have h1 := flat_lenN N f hf L
    have h2 := hf x
    have e : N * (L.length + 1) = N * L.length + N := by rw [Nat.mul_add, Nat.mul_one]
    simp only [List.flatMap_cons, List.length_append, List.length_cons]
    omega
theorem flS_len (R : Reg) (a b : Int) (x : Sec) : (flS R a b x).length ≤ 2000000 := by
  have h1 := flat_len (flD R x a b) (flD_len R x a b) (duL x)
  have h2 := duL_len x
  unfold flS; omega
/-- what Until leaves -/
def UnW (L : List Flow) (E : Int) (w : World) (e : Ending) (w' : World) : Prop := ∃ v, e = .returned (.tuple #[v, .int .i64 E]) ∧ w'.ownsRow w.heap.size 102 4 v L.length (flatE encFlow L) ∧ Below w.heap.size w w'
theorem unW_nil {L : List Flow} {E k : Int} {w w' : World} (hL : L = []) (hE : E = k) (hb : Below w.heap.size w w') : UnW L E w (.returned (.tuple #[.slice none 0 0, .int .i64 k])) w' := by
  subst hL hE; exact ⟨_, rfl, World.ownsRow_nil _ _ _ _, hb⟩
/-- what an append to the row v leaves as it was: the blocks from lo on and below hi -/
structure Gap (lo hi : Nat) (w0 wr : World) (v : Value) : Prop where
  off : ∀ g, v.ownBlock = some g → g < lo ∨ hi ≤ g
  kp : ∀ b, lo ≤ b → b < hi → wr.heap[b]? = w0.heap[b]?
  sz : hi ≤ wr.heap.size
theorem Gap.start {lo hi base n : Nat} {e : TypeId} {z : Nat} {w w0 : World} {v : Value} {xs : List Value} (h : w.ownsRow base e z v n xs) (hl : w.heap.size ≤ lo) (hh : hi ≤ w0.heap.size) : Gap lo hi w0 w0 v :=
  ⟨fun g hg => .inl (by have := (h.lt g hg).2; omega), fun _ _ _ => rfl, hh⟩
theorem Gap.below {lo hi : Nat} {w0 wr w' : World} {v : Value} (h : Gap lo hi w0 wr v) (hb : Below wr.heap.size wr w') : Gap lo hi w0 w' v :=
  ⟨h.off, fun b h1 h2 => (hb.block b (by have := h.sz; omega)).trans (h.kp b h1 h2), by have := h.sz; have := hb.size; omega⟩
theorem Gap.app {lo hi g n c H : Nat} {w0 wr w' : World} {v : Value} (h : Gap lo hi w0 wr v) (hg : wr.grownBy w' v.ownBlock) (ha : v.ownBlock = some g ∨ g = H) (hH : wr.heap.size = H) : Gap lo hi w0 w' (.slice (some ⟨g, 0, none⟩) n c) := by
  have hs := h.sz
  refine ⟨fun q hq => ?_, fun b h1 h2 => ?_, by have := hg.size; omega⟩
  · have hqg : q = g := by simp [Value.ownBlock] at hq; omega
    subst hqg
    rcases ha with ha | ha
    · exact h.off q ha
    · exact .inr (by omega)
  · refine (hg.block b (by omega) ?_).trans (h.kp b h1 h2)
    intro e
    rcases h.off b e.symm with h3 | h3 <;> omega
theorem newsFlow (w : World) (x0 x1 x2 x3 : Int) : ∀ j u, (encFlow ⟨x0, x1, x2, x3⟩)[j]? = some u → (w.alloc (.cells #[.int .i64 x0, .int .i64 x1, .int .i64 x2, .int .i64 x3] 102 (0, 0))).cell? ((⟨w.heap.size, 0, none⟩ : Addr).add j) = some u := newsL w _ _
theorem holdBd_of {R : Reg} (h : RgOk R) : ∀ y ∈ R.hs, HoldBd y := fun y hy => ⟨by have := h.hok.pos y hy; omega, h.hok.le hy⟩
set_option maxHeartbeats 16000000 in
set_option maxRecDepth 100000 in
theorem until_any (P : Nat → Prop) (vs vh vm : Value) (R : Reg) (from' to' : Int) (w : World) (hr : RgIn P w vs vh vm R) (hS : R.secs.length ≤ 1000000) (hH : R.hs.length ≤ 1000000) (hM : R.ms.length ≤ 1000000) :
    Calls Try.prog 65 #[.agg #[vs, vh, vm], .int .i64 from', .int .i64 to'] w (UnW (unL R from' to') (unE R from' to') w) := by
  obtain ⟨a0, n0, c0, rfl, hn0, -, -⟩ := hr.S.shape
  obtain ⟨a1, n1, c1, rfl, -, -, -⟩ := hr.H.shape
  obtain ⟨a2, n2, c2, rfl, -, -, -⟩ := hr.M.shape
  obtain ⟨E0, hE0⟩ : ∃ E, chkE R = E := ⟨_, rfl⟩
  have KA := Lib.hid (fun U (hU : Below w.heap.size w U) => check_any P _ _ _ R U (hr.below hU) hS hH hM)
  rw [hE0] at KA
  have HE0 := Lib.hid hE0
  have HR := Lib.hid hr
  clear hE0 hr
  by_cases h0 : E0 = 0
  case neg =>
    have e1 := Lib.hid (show unE R from' to' = E0 by unfold unE; rw [HE0.out, if_neg h0])
    have e2 := Lib.hid (show unL R from' to' = [] by unfold unL; rw [e1.out, if_neg h0])
    have g1 : (E0 == 0) = false := by simpa using h0
    have g2 : (E0 != 0) = true := by simpa using h0
    go_enter Try.func65, Try.ntmps65
    go_wp2_with fail
    refine (KA.out _ (bal brefl _)).mono ?_
    rintro e w1 ⟨rfl, hb1⟩
    go_wp2
    go_ret2
    exact unW_nil e2.out e1.out (bup (bal brefl _) hb1)
  subst h0
  have hok := chkE_iff.1 HE0.out
  cases hd1 : inB from' 0 35990
  case false =>
    have e1 := Lib.hid (show unE R from' to' = 2 by unfold unE; rw [HE0.out, if_pos rfl, hd1]; rfl)
    have e2 := Lib.hid (show unL R from' to' = [] by unfold unL; rw [e1.out, if_neg (by omega)])
    go_enter Try.func65, Try.ntmps65
    go_wp2_with fail
    refine (KA.out _ (bal brefl _)).mono ?_
    rintro e w1 ⟨rfl, hb1⟩
    go_wp2_with fail
    refine (amongC_any _ _ _ _).mono ?_
    rw [hd1]
    rintro e w' ⟨rfl, rfl⟩
    go_wp2
    go_ret2
    exact unW_nil e2.out e1.out (bup (bal brefl _) hb1)
  cases hd2 : inB to' 0 35990
  case false =>
    have e1 := Lib.hid (show unE R from' to' = 2 by unfold unE; rw [HE0.out, if_pos rfl, hd1, hd2]; rfl)
    have e2 := Lib.hid (show unL R from' to' = [] by unfold unL; rw [e1.out, if_neg (by omega)])
    go_enter Try.func65, Try.ntmps65
    go_wp2_with fail
    refine (KA.out _ (bal brefl _)).mono ?_
    rintro e w1 ⟨rfl, hb1⟩
    go_wp2_with fail
    refine (amongC_any _ _ _ _).mono ?_
    rw [hd1]
    rintro e w' ⟨rfl, rfl⟩
    go_wp2_with fail
    refine (amongC_any _ _ _ _).mono ?_
    rw [hd2]
    rintro e w' ⟨rfl, rfl⟩
    go_wp2
    go_ret2
    exact unW_nil e2.out e1.out (bup (bal brefl _) hb1)
  obtain ⟨f0, f1⟩ := inB_iff.1 hd1
  obtain ⟨g0, g1⟩ := inB_iff.1 hd2
  have hls := hok.ls
  have HBD := Lib.hid (holdBd_of hok)
  have e1 := Lib.hid (show unE R from' to' = if 400 < (flR R from' to').length then 3 else 0 by unfold unE; rw [HE0.out, if_pos rfl, hd1, hd2]; simp)
  obtain ⟨i1, hi, hz0, hz1, hz2⟩ := info_parts infoFlow
  have HN0 := Lib.hid hn0
  have hn20 : n0 ≤ 20 := by omega
  clear hok hls hn0 hS hM
  go_enter Try.func65, Try.ntmps65
  go_wp2_with fail
  refine (KA.out _ (bal brefl _)).mono ?_
  rintro e w1 ⟨rfl, hb1⟩
  have HB1 := Lib.hid (bup (bal brefl _) hb1)
  have HX := Lib.hid (heap_up hb1 (heap_alloc_new w _))
  have z1 := hb1.size
  simp only [World.size_alloc] at z1
  have r0 : w1.cell? ⟨w.heap.size, 0, none⟩ = some (.slice a0 n0 c0) := boxed_cell hb1 0 rfl
  clear hb1 KA
  go_wp2_with fail
  refine (amongC_any _ _ _ _).mono ?_
  rw [hd1]
  rintro e w' ⟨rfl, rfl⟩
  go_wp2_with fail
  refine (amongC_any _ _ _ _).mono ?_
  rw [hd2]
  rintro e w' ⟨rfl, rfl⟩
  go_wp2
  go_loopw [9, 36] (fun v iv wr => ∃ k : Nat, k ≤ n0 ∧ iv = .int .i64 k ∧ wr.ownsRow w1.heap.size 102 4 v ((R.secs.take k).flatMap (flS R from' to')).length (flatE encFlow ((R.secs.take k).flatMap (flS R from' to'))) ∧ Below w1.heap.size w1 wr) (fun _ iv _ => n0 - (intOf iv).toNat)
  case atStart => exact ⟨0, by omega, rfl, World.ownsRow_nil _ _ _ _, brefl⟩
  case round =>
    obtain ⟨k, hk, rfl, hown, hbr⟩ := hrel
    have zr := hbr.size
    have HO := Lib.hid hown
    have HBR := Lib.hid hbr
    clear hown hbr r0
    by_cases hlt : k < n0
    · obtain ⟨b, off, id, un, is, ma, ra, ev, ix, rfl, -, hbl, hx, k0, k1, k2, k3, k4, k5, k6⟩ := (HR.out.S.below (bup HB1.out HBR.out)).sec hlt
      have hsn : (R.secs.take (k + 1)).flatMap (flS R from' to') = (R.secs.take k).flatMap (flS R from' to') ++ flS R from' to' ⟨id, un, is, ma, ra, ev, ix⟩ := by rw [take_snocZ hx, List.flatMap_append]; simp
      have hLl := flat_lenN 2000000 (flS R from' to') (flS_len R from' to') (R.secs.take k)
      have htk : (R.secs.take k).length ≤ k := by rw [List.length_take]; omega
      obtain ⟨L0, hL0⟩ : ∃ L, (R.secs.take k).flatMap (flS R from' to') = L := ⟨_, rfl⟩
      rw [hL0] at hLl hsn HO
      have hL0l : L0.length ≤ 40000000 := by omega
      have HSN := Lib.hid hsn
      have KD := Lib.hid (dues_any id un is ma ra ev ix (wr.alloc (.cells #[.int .i64 id, .int .i64 un, .int .i64 is, .int .i64 ma, .int .i64 ra, .int .i64 ev, .bool ix] 29 (0, 0))))
      obtain ⟨x, hxe⟩ : ∃ x : Sec, (⟨id, un, is, ma, ra, ev, ix⟩ : Sec) = x := ⟨_, rfl⟩
      have KS := Lib.hid (fun (d : Int) W (hW : Below w.heap.size w W) => sums_any P _ _ _ R id un is ma ra ev ix d W (HR.out.below hW) hH HBD.out)
      have hxid : x.id = id := by rw [← hxe]
      rw [hxe] at HSN KD KS
      clear hsn hLl htk hL0 hx
      go_wp2_with fail
      refine KD.out.mono ?_
      rintro e w2 ⟨v2, rfl, hS2, hb2⟩
      obtain ⟨ho, m, hc, rfl, hm, -, -⟩ := hS2.shape
      have HS2 := Lib.hid (hS2.mono (Q := fun b => wr.heap.size ≤ b) (fun b h _ => by simp only [World.size_alloc] at h; omega))
      have HM := Lib.hid hm
      have hm6 : m ≤ 1000000 := by have := duL_len x; omega
      have z2 := hb2.size
      simp only [World.size_alloc] at z2
      have HB2 := Lib.hid (bup (bal HBR.out _) hb2)
      have HSEC := Lib.hid (heap_up hb2 (heap_alloc_new wr _))
      have HO2 := Lib.hid (ownsRow_belowZ (HO.out.alloc _) hb2)
      obtain ⟨XB, hXB⟩ : ∃ b, wr.heap.size = b := ⟨_, rfl⟩
      rw [hXB] at HSEC z2 HS2 ⊢
      clear hS2 hm hb2 KD k0 k1 k2 k3 k4 k5 k6
      go_wp2
      go_loopw [9, 43] (fun v iv wr => ∃ j : Nat, j ≤ m ∧ iv = .int .i64 j ∧ wr.ownsRow w1.heap.size 102 4 v (L0 ++ ((duL x).take j).flatMap (flD R x from' to')).length (flatE encFlow (L0 ++ ((duL x).take j).flatMap (flD R x from' to'))) ∧ Below w1.heap.size w1 wr ∧ Gap XB w2.heap.size w2 wr v) (fun _ iv _ => m - (intOf iv).toNat)
      case atStart => exact ⟨0, by omega, rfl, by simpa using HO2.out, HB2.out, Gap.start HO.out (by omega) (Nat.le_refl _)⟩
      case round =>
        obtain ⟨j, hj, rfl, hown2, hbj, hgap⟩ := hrel
        have zj := hgap.sz
        have HOJ := Lib.hid hown2
        have HBJ := Lib.hid hbj
        have HGJ := Lib.hid hgap
        have HXJ := Lib.hid (heap_up hbj HX.out)
        have HSJ := Lib.hid ((hgap.kp XB (Nat.le_refl _) (by omega)).trans HSEC.out)
        have HS2' := Lib.hid (HS2.out.block zj (fun b hb hl => hgap.kp b (by omega) hl))
        clear hown2 hbj hgap
        by_cases hjm : j < m
        · obtain ⟨b', off', d, rfl, -, hbl', hL', q0⟩ := HS2'.out.int hjm
          have hLj := flat_len (flD R x from' to') (flD_len R x from' to') ((duL x).take j)
          have htj : ((duL x).take j).length ≤ j := by rw [List.length_take]; omega
          have hsj : ((duL x).take (j + 1)).flatMap (flD R x from' to') = ((duL x).take j).flatMap (flD R x from' to') ++ flD R x from' to' d := by rw [take_snocZ hL', List.flatMap_append]; simp
          obtain ⟨L1, hL1⟩ : ∃ L, ((duL x).take j).flatMap (flD R x from' to') = L := ⟨_, rfl⟩
          rw [hL1] at hLj hsj HOJ
          have hL1l : L1.length ≤ 2000000 := by omega
          have HSJN := Lib.hid hsj
          clear hLj htj hL1 hsj hL'
          obtain ⟨L2, hL2⟩ : ∃ L, L0 ++ L1 = L := ⟨_, rfl⟩
          have hL2l : L2.length ≤ 42000000 := by rw [← hL2, List.length_append]; omega
          have HL2 := Lib.hid hL2
          rw [hL2] at HOJ
          clear hL2
          cases hin : inB d from' to'
          · have HD := Lib.hid (show flD R x from' to' d = [] by unfold flD; rw [hin]; rfl)
            go_wp2_with fail
            refine (amongC_any _ _ _ _).mono ?_
            rw [hin]
            rintro e w' ⟨rfl, rfl⟩
            go_wp2
            go_roundw
            case rel => exact ⟨j + 1, by omega, by go_num, by rw [HSJN.out, HD.out, List.append_nil, HL2.out]; exact HOJ.out, HBJ.out, HGJ.out⟩
            case measure => simp [intOf]; omega
          · obtain ⟨i0, i1'⟩ := inB_iff.1 hin
            obtain ⟨C, hC⟩ : ∃ C, smC x d R.hs = C := ⟨_, rfl⟩
            obtain ⟨Q, hQ⟩ : ∃ Q, smP x d R.hs = Q := ⟨_, rfl⟩
            obtain ⟨b1, b2⟩ := sm_bd x d (L := R.hs) HBD.out
            rw [hC] at b1
            rw [hQ] at b2
            have hcb : C ≤ 2000000000000000000 := by omega
            have hqb : Q ≤ 2000000000000000000 := by omega
            have hcz := b1.1
            have hqz := b2.1
            have HD := Lib.hid (show flD R x from' to' d = flF x d C ++ flF x d Q by unfold flD; rw [hin, if_pos rfl, hC, hQ])
            have KS1 := KS.out d wr (bup HB1.out HBJ.out)
            rw [hC, hQ] at KS1
            have KS2 := Lib.hid KS1
            clear hC hQ KS1 b1 b2
            go_wp2_with fail
            refine (amongC_any _ _ _ _).mono ?_
            rw [hin]
            rintro e w' ⟨rfl, rfl⟩
            go_wp2_with fail
            refine (next_any d _ (by omega) (by omega)).mono ?_
            rintro e w' ⟨rfl, rfl⟩
            have hX := HXJ.out
            have hY := HSJ.out
            have cx0 := cell_heap (i := 0) (hX) rfl; have cx1 := cell_heap (i := 1) (hX) rfl; have cx2 := cell_heap (i := 2) (hX) rfl
            have cy0 := cell_heap (i := 0) (hY) rfl; have cy1 := cell_heap (i := 1) (hY) rfl; have cy2 := cell_heap (i := 2) (hY) rfl; have cy3 := cell_heap (i := 3) (hY) rfl; have cy4 := cell_heap (i := 4) (hY) rfl; have cy5 := cell_heap (i := 5) (hY) rfl; have cy6 := cell_heap (i := 6) (hY) rfl
            clear hX hY
            go_wp2_with fail
            refine KS2.out.mono ?_
            rintro e w3 ⟨rfl, hb3⟩
            have z3 := hb3.size
            have HO3 := Lib.hid (ownsRow_belowZ HOJ.out hb3)
            have HB3 := Lib.hid (bup HBJ.out hb3)
            have HG3 := Lib.hid (HGJ.out.below hb3)
            obtain ⟨N, hN⟩ : ∃ N, nxD d = N := ⟨_, rfl⟩
            have HN := Lib.hid hN
            rw [hN]
            clear hb3 q0 cx0 cx1 cx2 cy0 cy1 cy2 cy3 cy4 cy5 cy6 hN
            go_wp2_with fail
            go_loopw [9, 68] (fun v iv wr => ∃ l : Nat, l ≤ 2 ∧ iv = .int .i64 l ∧ wr.ownsRow w1.heap.size 102 4 v (L2 ++ ([C, Q].take l).flatMap (flF x d)).length (flatE encFlow (L2 ++ ([C, Q].take l).flatMap (flF x d))) ∧ Below w1.heap.size w1 wr ∧ Gap XB w2.heap.size w2 wr v ∧ Gap w3.heap.size (w3.heap.size + 1) (w3.alloc (.cells #[.int .i64 C, .int .i64 Q] 3 (0, 0))) wr v) (fun _ iv _ => 2 - (intOf iv).toNat)
            case atStart => exact ⟨0, by omega, rfl, by simpa using HO3.out.alloc _, bal HB3.out _, HG3.out.below (bal brefl _), Gap.start HO3.out (Nat.le_refl _) (by simp)⟩
            case round =>
              obtain ⟨l, hl, rfl, hown4, hb4, hg4, hg5⟩ := hrel
              have z4 := hg4.sz
              have z5 := hg5.sz
              have ha4 := (hg5.kp w3.heap.size (Nat.le_refl _) (by omega)).trans (heap_alloc_new _ _)
              have y0 := cell_heap (i := 0) ha4 rfl
              have y1 := cell_heap (i := 1) ha4 rfl
              have hXS := (hg4.kp XB (Nat.le_refl _) (by omega)).trans HSEC.out
              have cz0 := cell_heap (i := 0) (hXS) rfl; have cz1 := cell_heap (i := 1) (hXS) rfl; have cz2 := cell_heap (i := 2) (hXS) rfl; have cz3 := cell_heap (i := 3) (hXS) rfl; have cz4 := cell_heap (i := 4) (hXS) rfl; have cz5 := cell_heap (i := 5) (hXS) rfl; have cz6 := cell_heap (i := 6) (hXS) rfl
              have hl4 : (([C, Q].take l).flatMap (flF x d)).length ≤ 2 := by
                have := flat_lenN 1 (flF x d) (flF_len x d) ([C, Q].take l)
                have : ([C, Q].take l).length ≤ l := by rw [List.length_take]; omega
                omega
              obtain ⟨L4, hL4⟩ : ∃ L, L2 ++ ([C, Q].take l).flatMap (flF x d) = L := ⟨_, rfl⟩
              have hL4l : L4.length ≤ 42000002 := by rw [← hL4, List.length_append]; omega
              rw [hL4] at hown4
              have HO4 := Lib.hid hown4
              have HB4 := Lib.hid hb4
              have HG4 := Lib.hid hg4
              have HG5 := Lib.hid hg5
              have hz4 := hb4.size
              clear hown4 hb4 ha4 hXS hl4 hg4 hg5
              by_cases hl2 : l < 2
              · obtain ⟨c, hc, hst, hcl, hcu⟩ : ∃ c : Int, wr.cell? ⟨w3.heap.size, l, none⟩ = some (.int .i64 c) ∧ L2 ++ ([C, Q].take (l + 1)).flatMap (flF x d) = L4 ++ flF x d c ∧ 0 ≤ c ∧ c ≤ 2000000000000000000 := by
                  rw [← hL4]
                  rcases (show l = 0 ∨ l = 1 by omega) with rfl | rfl
                  · exact ⟨C, y0, by simp, hcz, hcb⟩
                  · exact ⟨Q, y1, by simp, hqz, hqb⟩
                have HST := Lib.hid hst
                clear hst y0 y1 hL4
                by_cases hp : 0 < c
                · have HF := Lib.hid (show flF x d c = [⟨N, -c, 4, id⟩] by unfold flF; rw [if_pos hp, HN.out, hxid])
                  go_upto_region 20 with fail
                  go_wp2_with (at_builtin; go_must (refine wpList_append_lies _ rfl _ _ 94 rfl w1.heap.size 102 i1 (.agg #[.int .i64 0, .int .i64 0, .int .i64 0, .int .i64 0]) 4 32 Try.underlying94 hi hz0 hz1 hz2 rfl (by decide) _ L4.length (flatE encFlow L4) rfl (HO4.out.alloc _) ⟨wr.heap.size, 0, none⟩ 1 1 (encFlow ⟨N, -c, 4, id⟩) rfl rfl (newsFlow _ _ _ _ _) (oneFlow _) (by omega) (by unfold maxLen; omega) (by omega) (by simp; omega) (wr.heap.size + 1) (by simp) ?_); intro g5 c5 w5 hown5 hgr5 hat5 _; have HB5 := Lib.hid (show Below w1.heap.size w1 w5 from (bal HB4.out _).grown hgr5 (by simp; omega) (fun q hq => (HO4.out.lt q hq).1)); have HGA := Lib.hid ((HG4.out.below (bal brefl _)).app (n := L4.length + 1) (c := c5) hgr5 hat5 (by simp)); have HGB := Lib.hid ((HG5.out.below (bal brefl _)).app (n := L4.length + 1) (c := c5) hgr5 hat5 (by simp)); have HO5 := Lib.hid hown5; clear hgr5 hat5 hown5)
                  go_wp2
                  go_roundw
                  case rel => exact ⟨l + 1, by omega, by go_num, by rw [HST.out, HF.out, List.length_append, flatE_append]; simpa [flatE] using HO5.out, HB5.out, HGA.out, HGB.out⟩
                  case measure => simp [intOf]; omega
                · have HF := Lib.hid (show flF x d c = [] by unfold flF; rw [if_neg hp])
                  go_wp2
                  go_roundw
                  case rel => exact ⟨l + 1, by omega, by go_num, by rw [HST.out, HF.out, List.append_nil]; exact HO4.out, HB4.out, HG4.out, HG5.out⟩
                  case measure => simp [intOf]; omega
              · obtain rfl : l = 2 := by omega
                have HE := Lib.hid (show L4 = L2 ++ flD R x from' to' d by rw [HD.out, ← hL4]; simp)
                clear hL4 y0 y1
                go_wp2
                go_roundw
                case rel => exact ⟨j + 1, by omega, by go_num, by rw [HSJN.out, ← List.append_assoc, HL2.out, ← HE.out]; exact HO4.out, HB4.out, HG4.out⟩
                case measure => simp [intOf]; omega
        · have HE := Lib.hid (show L0 ++ ((duL x).take j).flatMap (flD R x from' to') = (R.secs.take (k + 1)).flatMap (flS R from' to') by rw [HSN.out, take_all (by have := HM.out; omega)]; rfl)
          rw [HE.out] at HOJ
          go_wp2
          go_roundw
          case rel => exact ⟨k + 1, by omega, by go_num, HOJ.out, HBJ.out⟩
          case measure => simp [intOf]; omega
    · have HE := Lib.hid (show (R.secs.take k).flatMap (flS R from' to') = flR R from' to' by unfold flR; rw [take_all (by have := HN0.out; omega)])
      rw [HE.out] at HO
      obtain ⟨L, hL⟩ : ∃ L, flR R from' to' = L := ⟨_, rfl⟩
      have hLl := flat_lenN 2000000 (flS R from' to') (flS_len R from' to') R.secs
      have hLb : L.length ≤ 40000000 := by rw [← hL]; unfold flR; have := HN0.out; omega
      rw [hL] at HO e1
      have HL := Lib.hid hL
      clear hL hLl
      obtain ⟨fo, fc, rfl⟩ := own_slice0' HO.out
      obtain ⟨n, hn⟩ : ∃ n, L.length = n := ⟨_, rfl⟩
      rw [hn] at e1 hLb
      by_cases hbig : 400 < n
      · have e2 := Lib.hid (show unE R from' to' = 3 by rw [e1.out, if_pos hbig])
        have e3 := Lib.hid (show unL R from' to' = [] by unfold unL; rw [e2.out, if_neg (by omega)])
        have HB := Lib.hid (bup HB1.out HBR.out)
        rw [hn]
        clear hn HBR
        go_wp2
        go_ret2
        exact unW_nil e3.out e2.out HB.out
      · have e2 := Lib.hid (show unE R from' to' = 0 by rw [e1.out, if_neg hbig])
        have e3 := Lib.hid (show unL R from' to' = srt (ltz cfF) L by unfold unL; rw [e2.out, if_pos rfl, HL.out])
        have hLn := hn
        have KF := Lib.hid (sortFlow_own 122 #[] cfF (fun _ => True) w1.heap.size _ L wr (enters_of Try.func122 (by kernel_rfl) rfl) (fun W _ x y _ _ => by simpa [vFlow, cfF] using until1_any x.day x.a x.kind x.ref y.day y.a y.kind y.ref W) cfF_wk (fun _ _ => trivial) HBR.out.size HO.out (by omega))
        rw [hn] at KF ⊢
        have HN := Lib.hid hn
        clear hn hLn
        go_wp2_with (go_at_call 121; refine KF.out.mono ?_; rintro e w2 ⟨rfl, hr2, hb2⟩)
        go_ret2
        rw [e2.out, e3.out]
        exact ⟨_, rfl, by rw [srt_length, HN.out]; exact ownsRow_baseZ hr2 (by omega), bup HB1.out (HBR.out.trans hb2)⟩
end Go.Proofs.Ytpoidaenkjjdfaa
