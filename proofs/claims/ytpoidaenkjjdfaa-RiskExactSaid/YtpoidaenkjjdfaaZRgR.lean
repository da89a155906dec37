/- treasury/risk's Project in plain Lean. treasury/risk's Project: the walk. -/
import Derived.Test.YtpoidaenkjjdfaaZRgC
import Derived.Test.YtpoidaenkjjdfaaZRgP
import Derived.Test.YtpoidaenkjjdfaaZSvc
import Derived.Test.YtpoidaenkjjdfaaZRefN
import Derived.Test.YtpoidaenkjjdfaaZRgL
import Derived.Test.YtpoidaenkjjdfaaZRegE
import Derived.IntWalk
namespace Go.Proofs.Ytpoidaenkjjdfaa
open Go.RowKit
set_option linter.unusedVariables false
set_option linter.unusedSimpArgs false
theorem sumF_le {α : Type} {f g : α → Int} : ∀ {L : List α}, (∀ x ∈ L, f x ≤ g x) → sumF f L ≤ sumF g L
  | [], _ => by simp [sumF]
  | x :: L, h => by
    have h1 := h x (List.mem_cons_self ..)
    have h2 := sumF_le (L := L) fun y hy => h y (List.mem_cons_of_mem _ hy)
    simp only [sumF]; omega
theorem sumF_add {α : Type} {f g h : α → Int} : ∀ {L : List α}, (∀ x ∈ L, h x = f x + g x) → sumF h L = sumF f L + sumF g L
  | [], _ => by simp [sumF]
  | x :: L, e => by
    have h1 := e x (List.mem_cons_self ..)
    have h2 := sumF_add (L := L) fun y hy => e y (List.mem_cons_of_mem _ hy)
    simp only [sumF]; omega
theorem sumF_zero {α : Type} {f : α → Int} : ∀ {L : List α}, (∀ x ∈ L, f x = 0) → sumF f L = 0
  | [], _ => by simp [sumF]
  | x :: L, e => by
    have h1 := e x (List.mem_cons_self ..)
    have h2 := sumF_zero (L := L) fun y hy => e y (List.mem_cons_of_mem _ hy)
    simp only [sumF]; omega
def amtF (x : Hold) : Int := x.a
theorem sumF_amt : ∀ L : List Hold, sumF amtF L = sumH L
  | [] => rfl
  | x :: L => by simp only [sumF, sumH, sumF_amt L, amtF]
theorem RgOk.tot {R : Reg} (h : RgOk R) : 0 ≤ sumF amtF R.hs ∧ sumF amtF R.hs ≤ 20000000000000 ∧ sumF amtF R.hs = rgDebt R := by
  have h1 := h.debt
  have h2 := debtS_bd (L := R.secs) h.hok R.secs.length
  rw [List.take_length] at h2
  have h3 : rgDebt R = sumH R.hs := by unfold rgDebt; rw [if_pos (chkE_iff.2 h)]
  have h4 := h.ls
  rw [sumF_amt]
  omega
theorem RgOk.rh {R : Reg} (h : RgOk R) : RhOk R := by
  have hk := h.hok
  refine ⟨by have := h.hl; omega, fun x hx => ⟨Int.le_of_lt (hk.pos x hx), hk.le hx⟩, fun x hx => ?_⟩
  have hf := repl_secs R.secs R.ms 0 0 [] h.ok (by simp) x (by rw [h.hs]; exact hx)
  obtain ⟨s, hs⟩ := Option.isSome_iff_exists.1 hf
  have hm := (findS_mem hs).1
  have := h.sec s hm
  unfold secOf
  rw [hs]
  exact secB_iff.1 this
/-- what fell due ahead of a year, and was raised again -/
def raiF (R : Reg) (y0 y : Int) (x : Hold) : Int := if y0 ≤ yrOf (secOf R x).ma ∧ yrOf (secOf R x).ma < y then x.a else 0
def rais (R : Reg) (y0 : Int) (k : Nat) : Int := sumF (raiF R y0 (y0 + k)) R.hs
theorem rais_zero (R : Reg) (y0 : Int) : rais R y0 0 = 0 := sumF_zero fun x _ => by unfold raiF; rw [if_neg (by omega)]
theorem rais_succ (R : Reg) (y0 : Int) (k : Nat) : rais R y0 (k + 1) = sumF (fallF R (y0 + k)) R.hs + rais R y0 k := sumF_add fun x _ => by
  unfold raiF fallF
  split <;> split <;> split <;> omega
theorem rais_bd {R : Reg} (h : RgOk R) (y0 : Int) (k : Nat) : 0 ≤ rais R y0 k ∧ rais R y0 k ≤ 20000000000000 := by
  have ht := h.tot
  have h0 : sumF (fun _ => 0) R.hs ≤ rais R y0 k := sumF_le fun x hx => by have := (h.rh.amt x hx).1; unfold raiF; split <;> omega
  have h1 : rais R y0 k ≤ sumF amtF R.hs := sumF_le fun x hx => by have := (h.rh.amt x hx).1; unfold raiF amtF; split <;> omega
  rw [sumF_zero (f := fun _ => 0) fun _ _ => rfl] at h0
  omega
theorem late_bd {R : Reg} (h : RgOk R) (y : Int) : 0 ≤ sumF (lateF R y) R.hs ∧ sumF (lateF R y) R.hs ≤ 20000000000000 := by
  have ht := h.tot
  have h0 : sumF (fun _ => 0) R.hs ≤ sumF (lateF R y) R.hs := sumF_le fun x hx => (lateF_bd h.rh y x hx).1
  have h1 : sumF (lateF R y) R.hs ≤ sumF amtF R.hs := sumF_le fun x hx => by have := (h.rh.amt x hx).1; unfold lateF amtF; split <;> omega
  rw [sumF_zero (f := fun _ => 0) fun _ _ => rfl] at h0
  omega
theorem fall_bd {R : Reg} (h : RgOk R) (y : Int) : 0 ≤ sumF (fallF R y) R.hs ∧ sumF (fallF R y) R.hs ≤ 20000000000000 := by
  have ht := h.tot
  have h0 : sumF (fun _ => 0) R.hs ≤ sumF (fallF R y) R.hs := sumF_le fun x hx => (fallF_bd h.rh y x hx).1
  have h1 : sumF (fallF R y) R.hs ≤ sumF amtF R.hs := sumF_le fun x hx => by have := (h.rh.amt x hx).1; unfold fallF amtF; split <;> omega
  rw [sumF_zero (f := fun _ => 0) fun _ _ => rfl] at h0
  omega
theorem cpN_fine {id un is ma ra ev n : Int} (h : SecOk id un is ma ra ev) (h0 : 0 ≤ n) (h1 : n ≤ 1000000000000) : cpN id un is ma ra ev n * (dayN id un is ma ra ev : Nat) ≤ 10 * n + 300 ∧ 0 ≤ cpN id un is ma ra ev n := by
  have hb := (cpN_bd h h0 h1).1
  refine ⟨?_, hb⟩
  have hd : dayN id un is ma ra ev = if ev = 0 then 0 else ((ma - is) / (30 * ev)).toNat := by
    unfold dayN; rw [secB_iff.2 h]; by_cases e : ev = 0 <;> simp [e]
  have hc : cpN id un is ma ra ev n = (n * ra * ev + 600000) / 1200000 := by unfold cpN; rw [if_pos (ccE_of h h0 h1)]
  have hr : n * ra ≤ n * 20000 := Int.mul_le_mul_of_nonneg_left h.ra1 h0
  have hm := h.ma1
  have hm0 := h.ma0
  obtain ⟨c, hcc⟩ : ∃ c, cpN id un is ma ra ev n = c := ⟨_, rfl⟩
  obtain ⟨d, hdd⟩ : ∃ d, dayN id un is ma ra ev = d := ⟨_, rfl⟩
  obtain ⟨t, ht⟩ : ∃ t, n * ra = t := ⟨_, rfl⟩
  rw [hcc] at hc hb ⊢
  rw [hdd] at hd ⊢
  rw [ht] at hc hr
  have key : ∀ B : Nat, d ≤ B → c * (d : Int) ≤ c * (B : Int) := fun B hB => Int.mul_le_mul_of_nonneg_left (by omega) hb
  rcases h.ev with ⟨rfl, _⟩ | ⟨rfl, _⟩ | ⟨rfl, _⟩ | ⟨rfl, _⟩ | ⟨rfl, _⟩
  · have := key 0 (by simp at hd; omega); omega
  · have := key 600 (by simp at hd; omega); omega
  · have := key 200 (by simp at hd; omega); omega
  · have := key 100 (by simp at hd; omega); omega
  · have := key 50 (by simp at hd; omega); omega
theorem coupF_fine {R : Reg} (h : RgOk R) (y : Int) : ∀ x ∈ R.hs, 0 ≤ coupF R y x ∧ coupF R y x ≤ 10 * x.a + 300 := fun x hx => by
  have ha := h.rh.amt x hx
  have hs := h.rh.sec x hx
  obtain ⟨h1, h2⟩ := cpN_fine hs ha.1 ha.2
  have h3 := sumF_bd (f := dayG (cpN (secOf R x).id (secOf R x).un (secOf R x).is (secOf R x).ma (secOf R x).ra (secOf R x).ev x.a) y) (B := cpN (secOf R x).id (secOf R x).un (secOf R x).is (secOf R x).ma (secOf R x).ra (secOf R x).ev x.a) (L := daysL (secOf R x).id (secOf R x).un (secOf R x).is (secOf R x).ma (secOf R x).ra (secOf R x).ev) (fun d _ => by unfold dayG; split <;> omega)
  have h4 : (daysL (secOf R x).id (secOf R x).un (secOf R x).is (secOf R x).ma (secOf R x).ra (secOf R x).ev).length = dayN (secOf R x).id (secOf R x).un (secOf R x).is (secOf R x).ma (secOf R x).ra (secOf R x).ev := by unfold daysL; simp
  rw [h4] at h3
  exact ⟨h3.1, Int.le_trans h3.2 h1⟩
theorem sumF_ten : ∀ L : List Hold, sumF (fun x => 10 * x.a + 300) L = 10 * sumF amtF L + 300 * L.length
  | [] => by simp [sumF]
  | x :: L => by have := sumF_ten L; simp only [sumF, amtF, List.length_cons] at *; omega
theorem coup_bd {R : Reg} (h : RgOk R) (y : Int) : 0 ≤ sumF (coupF R y) R.hs ∧ sumF (coupF R y) R.hs ≤ 300000000000000 := by
  have ht := h.tot
  have h0 : sumF (fun _ => 0) R.hs ≤ sumF (coupF R y) R.hs := sumF_le fun x hx => (coupF_fine h y x hx).1
  have h1 : sumF (coupF R y) R.hs ≤ sumF (fun x => 10 * x.a + 300) R.hs := sumF_le fun x hx => (coupF_fine h y x hx).2
  rw [sumF_zero (f := fun _ => 0) fun _ _ => rfl] at h0
  rw [sumF_ten] at h1
  have := h.rh.len
  omega
/-- the rate at which was raised -/
def oldR (L : List Int) (k : Nat) : Int := if k = 0 then 0 else (L[k - 1]?).getD 0
def prjI (R : Reg) (y0 : Int) (L : List Int) (k : Nat) : Int := sumF (coupF R (y0 + k)) R.hs + (rais R y0 k * oldR L k + 50000) / 100000
def prjS (R : Reg) (y0 : Int) (L : List Int) (k : Nat) : Svc := ⟨y0 + k, prjI R y0 L k, rais R y0 (k + 1), sumF (lateF R (y0 + k)) R.hs + rais R y0 (k + 1)⟩
def prE (R : Reg) (y0 : Int) (L : List Int) : Int := if chkE R = 0 then (if pathB L then (if inB y0 0 100 then 0 else 2) else 84) else chkE R
def prL (R : Reg) (y0 : Int) (L : List Int) : List Svc := if prE R y0 L = 0 then (List.range L.length).map (prjS R y0 L) else []
theorem prE_zero {R : Reg} {y0 : Int} {L : List Int} (h : prE R y0 L = 0) : RgOk R ∧ pathB L = true ∧ 0 ≤ y0 ∧ y0 ≤ 100 := by
  unfold prE at h
  split at h
  · rename_i h1
    split at h
    · rename_i h2
      split at h
      · rename_i h3; exact ⟨chkE_iff.1 h1, h2, (inB_iff.1 h3).1, (inB_iff.1 h3).2⟩
      · omega
    · omega
  · contradiction
theorem pathB_at {L : List Int} (h : pathB L = true) {k : Nat} {x : Int} (hx : L[k]? = some x) : 0 ≤ x ∧ x ≤ 20000 := by
  unfold pathB at h
  simp only [Bool.and_eq_true, Bool.not_eq_true'] at h
  have : inB x 0 20000 = true := by
    cases hb : inB x 0 20000 with
    | true => rfl
    | false => rw [badR_yes hx hb] at h; cases h.2
  exact inB_iff.1 this
theorem pathB_len {L : List Int} (h : pathB L = true) : 1 ≤ L.length ∧ L.length ≤ 60 := by
  unfold pathB at h
  simp only [Bool.and_eq_true, decide_eq_true_eq] at h
  exact h.1
theorem oldR_bd {L : List Int} (h : pathB L = true) (k : Nat) : 0 ≤ oldR L k ∧ oldR L k ≤ 20000 := by
  unfold oldR
  split
  · omega
  · cases hx : L[k - 1]? with
    | none => simp
    | some x => exact pathB_at h hx
theorem oldR_next {L : List Int} {k : Nat} {x : Int} (hx : L[k]? = some x) : oldR L (k + 1) = x := by
  unfold oldR; rw [if_neg (by omega), Nat.add_sub_cancel, hx]; rfl
theorem svc_snoc (f : Nat → Svc) (k : Nat) : (List.range (k + 1)).map f = (List.range k).map f ++ [f k] := by simp [List.range_succ]
end Go.Proofs.Ytpoidaenkjjdfaa
namespace Go.Proofs.Ytpoidaenkjjdfaa
open Go.RowKit
set_option linter.unusedVariables false
set_option linter.unusedSimpArgs false
def PrW (L : List Svc) (E : Int) (w : World) (e : Ending) (w' : World) : Prop := ∃ v, e = .returned (.tuple #[v, .int .i64 E]) ∧ w'.ownsRow w.heap.size 140 4 v L.length (flatE encSvc L) ∧ Below w.heap.size w w'
theorem prW_nil {L : List Svc} {E k : Int} {w w' : World} (hL : L = []) (hE : E = k) (hb : Below w.heap.size w w') : PrW L E w (.returned (.tuple #[.slice none 0 0, .int .i64 k])) w' := by
  subst hL hE; exact ⟨_, rfl, World.ownsRow_nil _ _ _ _, hb⟩
theorem svc_set4 {w : World} {b : Nat} {z0 z1 z2 z3 : Value} {T : TypeId} (h : w.heap[b]? = some (.cells #[z0, z1, z2, z3] T (0, 0))) (v0 v1 v2 v3 : Value) :
    ((((w.setCell ⟨b, 0, none⟩ v0).setCell ⟨b, 1, none⟩ v1).setCell ⟨b, 2, none⟩ v2).setCell ⟨b, 3, none⟩ v3).heap[b]? = some (.cells #[v0, v1, v2, v3] T (0, 0)) := by
  have e0 := heap_setCell_same w b 0 _ _ v0 h
  have e1 := heap_setCell_same _ b 1 _ _ v1 e0
  have e2 := heap_setCell_same _ b 2 _ _ v2 e1
  have e3 := heap_setCell_same _ b 3 _ _ v3 e2
  exact e3
theorem bset4 {w w1 : World} (h : Below w.heap.size w w1) {b : Nat} (hp : w.heap.size ≤ b) (v0 v1 v2 v3 : Value) : Below w.heap.size w ((((w1.setCell ⟨b, 0, none⟩ v0).setCell ⟨b, 1, none⟩ v1).setCell ⟨b, 2, none⟩ v2).setCell ⟨b, 3, none⟩ v3) := bset (bset (bset (bset h hp _) hp _) hp _) hp _
theorem keep_box {w w' : World} {b : Nat} {o : Obj} (hb : Below w.heap.size w w') (h : w.heap[b]? = some o) : w'.heap[b]? = some o := (hb.block b (Array.getElem?_eq_some_iff.1 h).1).trans h
set_option maxHeartbeats 4000000 in
set_option maxRecDepth 100000 in
theorem project_any (P P2 : Nat → Prop) (vs vh vm v : Value) (R : Reg) (y0 : Int) (L : List Int) (w : World) (hr : RgIn P w vs vh vm R) (hS : R.secs.length ≤ 1000000) (hH : R.hs.length ≤ 1000000) (hM : R.ms.length ≤ 1000000)
    (hv : Sl 1 encI P2 w v L) (hv1 : L.length ≤ 1000000) :
    Calls Try.prog 54 #[.agg #[vs, vh, vm], .int .i64 y0, v] w (PrW (prL R y0 L) (prE R y0 L) w) := by
  obtain ⟨a0, n0, c0, rfl, -, -, -⟩ := hr.S.shape
  obtain ⟨a1, n1, c1, rfl, -, -, -⟩ := hr.H.shape
  obtain ⟨a2, n2, c2, rfl, -, -, -⟩ := hr.M.shape
  obtain ⟨a3, n3, c3, rfl, hl3, hnc3, hcm3⟩ := hv.shape
  have HR := Lib.hid hr
  have HV := Lib.hid hv
  have HL3 := Lib.hid hl3
  have hn3 : n3 ≤ 1000000 := by omega
  have HC := Lib.hid (fun W (hW : Below w.heap.size w W) => check_any P _ _ _ R W (hr.below (w' := W) hW) hS hH hM)
  have HP := Lib.hid (fun W (hW : Below w.heap.size w W) => path_any P2 _ L W (hv.below hW) hv1)
  obtain ⟨E0, hE0⟩ : ∃ E, chkE R = E := ⟨_, rfl⟩
  obtain ⟨pb, hpb⟩ : ∃ b, pathB L = b := ⟨_, rfl⟩
  obtain ⟨yb, hyb⟩ : ∃ b, inB y0 0 100 = b := ⟨_, rfl⟩
  have hpe : prE R y0 L = if E0 = 0 then (if pb then (if yb then 0 else 2) else 84) else E0 := by unfold prE; rw [hE0, hpb, hyb]
  rw [hE0] at HC
  rw [hpb] at HP
  have HYB := Lib.hid (fun (W : World) => amongK_any y0 0 100 W)
  rw [hyb] at HYB
  have hnil : prE R y0 L ≠ 0 → prL R y0 L = [] := fun h => by unfold prL; rw [if_neg h]
  have HPE := Lib.hid hpe
  have HNIL := Lib.hid hnil
  have HE0 := Lib.hid hE0
  have HPB := Lib.hid hpb
  have HYI := Lib.hid hyb
  clear hr hv hl3 hE0 hpb hyb hpe hnil
  by_cases h0 : E0 = 0
  rotate_left
  · have hE1 : (E0 != 0) = true := by simpa using h0
    have hE2 : (E0 == 0) = false := by simpa using h0
    have HE : prE R y0 L = E0 := by rw [HPE.out, if_neg h0]
    have HN := Lib.hid (HNIL.out (by rw [HE]; exact h0))
    have HE' := Lib.hid HE
    clear HE
    go_enter Try.func54, Try.ntmps54
    go_wp2_with fail
    refine (HC.out _ (bal brefl _)).mono ?_
    rintro e w1 ⟨rfl, hb1⟩
    have HB1 := Lib.hid (bup (bal brefl _) hb1)
    clear hb1
    go_wp2
    go_ret2
    exact prW_nil HN.out HE'.out HB1.out
  subst h0
  cases pb
  · have HE : prE R y0 L = 84 := by rw [HPE.out]; simp
    have HN := Lib.hid (HNIL.out (by rw [HE]; decide))
    have HE' := Lib.hid HE
    clear HE
    go_enter Try.func54, Try.ntmps54
    go_wp2_with fail
    refine (HC.out _ (bal brefl _)).mono ?_
    rintro e w1 ⟨rfl, hb1⟩
    have HB1 := Lib.hid (bup (bal brefl _) hb1)
    clear hb1
    go_wp2_with fail
    refine (HP.out _ HB1.out).mono ?_
    rintro e w2 ⟨rfl, rfl⟩
    go_wp2
    go_ret2
    exact prW_nil HN.out HE'.out HB1.out
  cases yb
  · have HE : prE R y0 L = 2 := by rw [HPE.out]; simp
    have HN := Lib.hid (HNIL.out (by rw [HE]; decide))
    have HE' := Lib.hid HE
    clear HE
    go_enter Try.func54, Try.ntmps54
    go_wp2_with fail
    refine (HC.out _ (bal brefl _)).mono ?_
    rintro e w1 ⟨rfl, hb1⟩
    have HB1 := Lib.hid (bup (bal brefl _) hb1)
    clear hb1
    go_wp2_with fail
    refine (HP.out _ HB1.out).mono ?_
    rintro e w2 ⟨rfl, rfl⟩
    go_wp2_with fail
    refine (HYB.out _).mono ?_
    rintro e w3 ⟨rfl, rfl⟩
    go_wp2
    go_ret2
    exact prW_nil HN.out HE'.out HB1.out
  have HE : prE R y0 L = 0 := by rw [HPE.out]; simp
  have hLL : prL R y0 L = (List.range L.length).map (prjS R y0 L) := by unfold prL; rw [if_pos HE]
  have HLL := Lib.hid hLL
  have HE' := Lib.hid HE
  have HOK := Lib.hid (chkE_iff.1 HE0.out)
  have hy := inB_iff.1 HYI.out
  have HNL := Lib.hid (pathB_len HPB.out)
  have hn60 : n3 ≤ 60 := by have := HNL.out.2; have := HL3.out; omega
  obtain ⟨i1, hi, hz0, hz1, hz2⟩ := info_parts infoSvc
  have HCO := Lib.hid (fun W (hW : Below w.heap.size w W) y => rcoupons_any P _ _ _ R y W (HR.out.below hW) hS HOK.out.rh)
  have HFA := Lib.hid (fun W (hW : Below w.heap.size w W) y => rfalls_any P _ _ _ R y W (HR.out.below hW) hS HOK.out.rh)
  have HLA := Lib.hid (fun W (hW : Below w.heap.size w W) y => rlater_any P _ _ _ R y W (HR.out.below hW) hS HOK.out.rh)
  clear HE hLL HPE HNIL
  go_enter Try.func54, Try.ntmps54
  go_wp2_with fail
  refine (HC.out _ (bal brefl _)).mono ?_
  rintro e w1 ⟨rfl, hb1⟩
  have HR0 := Lib.hid (show w1.cell? ⟨w.heap.size, 0, none⟩ = some (.slice a0 n0 c0) from boxed_cell hb1 0 rfl)
  have HR1 := Lib.hid (show w1.cell? ⟨w.heap.size, 1, none⟩ = some (.slice a1 n1 c1) from boxed_cell hb1 1 rfl)
  have HR2 := Lib.hid (show w1.cell? ⟨w.heap.size, 2, none⟩ = some (.slice a2 n2 c2) from boxed_cell hb1 2 rfl)
  have HB1 := Lib.hid (bup (bal brefl _) hb1)
  have hz1' : w.heap.size < w1.heap.size := by have := hb1.size; simp at this; omega
  clear hb1
  go_wp2_with fail
  refine (HP.out _ HB1.out).mono ?_
  rintro e w2 ⟨rfl, rfl⟩
  go_wp2_with fail
  refine (HYB.out _).mono ?_
  rintro e w3 ⟨rfl, rfl⟩
  go_wp2_with fail
  clear HC HP HYB
  go_loopw [9, 10, 11, 31] (fun v rv ov iv wr => ∃ k : Nat, k ≤ n3 ∧ iv = .int .i64 k ∧ rv = .int .i64 (rais R y0 k) ∧ ov = .int .i64 (oldR L k) ∧ wr.ownsRow w1.heap.size 140 4 v k (flatE encSvc ((List.range k).map (prjS R y0 L))) ∧ Below w1.heap.size w1 wr) (fun _ _ _ iv _ => n3 - (intOf iv).toNat)
  case atStart => exact ⟨0, by omega, rfl, by rw [rais_zero], rfl, World.ownsRow_nil _ _ _ _, brefl⟩
  case round =>
    obtain ⟨k, hk, rfl, rfl, rfl, hown, hbr⟩ := hrel
    have HO := Lib.hid hown
    have HBR := Lib.hid hbr
    have HBr := Lib.hid (bup HB1.out hbr)
    have zr := hbr.size
    by_cases hlt : k < n3
    · obtain ⟨b, off, x, rfl, -, hbl, hxk, hck⟩ := (HV.out.below HBr.out).int hlt
      have hrb := rais_bd HOK.out y0 k
      have hob := oldR_bd HPB.out k
      have hor := Lib.hid (oldR_next hxk)
      have hrs := Lib.hid (rais_succ R y0 k)
      obtain ⟨rz, hrz⟩ : ∃ z, rais R y0 k = z := ⟨_, rfl⟩
      obtain ⟨oz, hoz⟩ : ∃ z, oldR L k = z := ⟨_, rfl⟩
      obtain ⟨hm0, hm1⟩ : 0 ≤ rz * oz ∧ rz * oz ≤ 20000000000000 * 20000 := by rw [← hrz, ← hoz]; exact mul_bd hrb.1 hrb.2 hob.1 hob.2
      have hq0 : 0 ≤ (rz * oz + 50000) / 100000 := Int.ediv_nonneg (by omega) (by omega)
      have hq1 : (rz * oz + 50000) / 100000 ≤ 4000000000001 := by omega
      have hcb := coup_bd HOK.out (y0 + k)
      have hfb := fall_bd HOK.out (y0 + k)
      have hlb := late_bd HOK.out (y0 + k)
      have hrb2 := rais_bd HOK.out y0 (k + 1)
      rw [hrs.out] at hrb2
      have HPS := Lib.hid (show prjS R y0 L k = ⟨y0 + k, sumF (coupF R (y0 + k)) R.hs + (rais R y0 k * oldR L k + 50000) / 100000, sumF (fallF R (y0 + k)) R.hs + rais R y0 k, sumF (lateF R (y0 + k)) R.hs + (sumF (fallF R (y0 + k)) R.hs + rais R y0 k)⟩ by unfold prjS prjI; rw [hrs.out])
      rw [hrz] at hrb hrs hrb2 HPS ⊢
      rw [hoz] at hob HPS ⊢
      have KC := Lib.hid (fun W hW => HCO.out W hW (y0 + k))
      have KF := Lib.hid (fun W hW => HFA.out W hW (y0 + k))
      have KL := Lib.hid (fun W hW => HLA.out W hW (y0 + k))
      obtain ⟨C, hC⟩ : ∃ z, sumF (coupF R (y0 + k)) R.hs = z := ⟨_, rfl⟩
      obtain ⟨F, hF⟩ : ∃ z, sumF (fallF R (y0 + k)) R.hs = z := ⟨_, rfl⟩
      obtain ⟨T, hT⟩ : ∃ z, sumF (lateF R (y0 + k)) R.hs = z := ⟨_, rfl⟩
      rw [hC] at hcb KC HPS
      rw [hF] at hfb KF HPS hrb2 hrs
      rw [hT] at hlb KL HPS
      have r0 := keepB hbr HR0.out
      have r1 := keepB hbr HR1.out
      have r2 := keepB hbr HR2.out
      have hne : w.heap.size < wr.heap.size := World.block_lt_of_cell? _ _ r0
      clear hown hbr hxk hrz hoz hC hF hT
      go_upto_region 14 with fail
      have hwr : Below wr.heap.size wr wr := brefl
      have HNE := Lib.hid hne
      have hw1 : IntKind.i64.wrap (rz * oz) = rz * oz := IntWalk.i64_in _ (by omega)
      have hw2 : IntKind.i64.wrap (rz * oz + 50000) = rz * oz + 50000 := IntWalk.i64_in _ (by omega)
      have hw3 : (rz * oz + 50000).tdiv 100000 = (rz * oz + 50000) / 100000 := Int.tdiv_eq_ediv_of_nonneg (by omega)
      have hw4 : IntKind.i64.wrap ((rz * oz + 50000) / 100000) = (rz * oz + 50000) / 100000 := IntWalk.i64_in _ (by omega)
      have hw5 : IntKind.i64.wrap (C + (rz * oz + 50000) / 100000) = C + (rz * oz + 50000) / 100000 := IntWalk.i64_in _ (by omega)
      have hw6 : IntKind.i64.wrap (F + rz) = F + rz := IntWalk.i64_in _ (by omega)
      have HBX := Lib.hid hwr
      clear hwr
      go_cut [15] (fun s15 wx => ∃ B, s15 = .pointer (some ⟨B, 0, none⟩) ∧ wr.heap.size ≤ B ∧ wx.heap[B]? = some (.cells #[.int .i64 (y0 + k), .int .i64 (C + (rz * oz + 50000) / 100000), .int .i64 (F + rz), .int .i64 0] 140 (0, 0)) ∧ Below wr.heap.size wr wx)
      case first =>
        go_region_with (first
          | (go_at_call 105; refine (KC.out _ ?_).mono ?_; (· first | exact bup HBr.out HBX.out | exact bup HBr.out (bdr HBX.out) | exact bup HBr.out (bal HBX.out _) | exact bup HBr.out (bal (bdr HBX.out) _)); rintro e wn ⟨rfl, hbn⟩; (first | (have hx := (show wn.heap[wr.heap.size]? = some (.cells #[.int .i64 0, .int .i64 0, .int .i64 0, .int .i64 0] 140 (0, 0)) from box_belowN (w := wr.drew) hbn); have hle := Nat.le_refl wr.heap.size) | (have hx := box_belowN hbn; have hle := HBX.out.size) | (have hx := keep_box hbn HX.out; have hle := HLE.out) | skip); have HBX := Lib.hid (show Below wr.heap.size wr wn by first | exact bup HBX.out hbn | exact bup (bdr HBX.out) hbn | exact bup (bal HBX.out _) hbn | exact bup (bal (bdr HBX.out) _) hbn); have hne := Nat.lt_of_lt_of_le HNE.out HBX.out.size; have s0 := keepB HBX.out r0; have s1 := keepB HBX.out r1; have s2 := keepB HBX.out r2; (try (have x0 := cell_heap (i := 0) hx rfl; have x1 := cell_heap (i := 1) hx rfl; have x2 := cell_heap (i := 2) hx rfl; have x3 := cell_heap (i := 3) hx rfl; have f0 := frozen_of_row wn _ 0 _ _ hx; have f1 := frozen_of_row wn _ 1 _ _ hx; have f2 := frozen_of_row wn _ 2 _ _ hx; have f3 := frozen_of_row wn _ 3 _ _ hx; have HX := Lib.hid hx; have HLE := Lib.hid hle; clear hx hle)); clear hbn)
          | (go_at_call 106; refine (KF.out _ ?_).mono ?_; (· first | exact bup HBr.out HBX.out | exact bup HBr.out (bdr HBX.out) | exact bup HBr.out (bal HBX.out _) | exact bup HBr.out (bal (bdr HBX.out) _)); rintro e wn ⟨rfl, hbn⟩; (first | (have hx := (show wn.heap[wr.heap.size]? = some (.cells #[.int .i64 0, .int .i64 0, .int .i64 0, .int .i64 0] 140 (0, 0)) from box_belowN (w := wr.drew) hbn); have hle := Nat.le_refl wr.heap.size) | (have hx := box_belowN hbn; have hle := HBX.out.size) | (have hx := keep_box hbn HX.out; have hle := HLE.out) | skip); have HBX := Lib.hid (show Below wr.heap.size wr wn by first | exact bup HBX.out hbn | exact bup (bdr HBX.out) hbn | exact bup (bal HBX.out _) hbn | exact bup (bal (bdr HBX.out) _) hbn); have hne := Nat.lt_of_lt_of_le HNE.out HBX.out.size; have s0 := keepB HBX.out r0; have s1 := keepB HBX.out r1; have s2 := keepB HBX.out r2; (try (have x0 := cell_heap (i := 0) hx rfl; have x1 := cell_heap (i := 1) hx rfl; have x2 := cell_heap (i := 2) hx rfl; have x3 := cell_heap (i := 3) hx rfl; have f0 := frozen_of_row wn _ 0 _ _ hx; have f1 := frozen_of_row wn _ 1 _ _ hx; have f2 := frozen_of_row wn _ 2 _ _ hx; have f3 := frozen_of_row wn _ 3 _ _ hx; have HX := Lib.hid hx; have HLE := Lib.hid hle; clear hx hle)); clear hbn))
        all_goals (go_wp2_with fail; go_meet)
        all_goals (try simp only [hw1, hw2, hw3, hw4, hw5, hw6])
        all_goals (first | exact ⟨_, rfl, HLE.out, svc_set4 HX.out _ _ _ _, bset4 HBX.out HLE.out _ _ _ _⟩ | exact ⟨_, rfl, HBX.out.size, heap_alloc_new _ _, bal HBX.out _⟩)
      case rest =>
        obtain ⟨B, rfl, hB, hX, hBx⟩ := hcut
        have HXB := Lib.hid hX
        have HBC := Lib.hid hBx
        have s0 := keepB hBx r0
        have s1 := keepB hBx r1
        have s2 := keepB hBx r2
        have x0 := cell_heap (i := 0) hX rfl
        have x1 := cell_heap (i := 1) hX rfl
        have x2 := cell_heap (i := 2) hX rfl
        have x3 := cell_heap (i := 3) hX rfl
        have f3 := frozen_of_row wc _ 3 _ _ hX
        have hw7 : IntKind.i64.wrap (T + (F + rz)) = T + (F + rz) := IntWalk.i64_in _ (by omega)
        clear hX hBx hw1 hw2 hw3 hw4 hw5 hw6 hck
        go_upto_region 15 with fail
        go_cut [] (fun wx => wx.heap[B]? = some (.cells #[.int .i64 (y0 + k), .int .i64 (C + (rz * oz + 50000) / 100000), .int .i64 (F + rz), .int .i64 (T + (F + rz))] 140 (0, 0)) ∧ Below wr.heap.size wr wx)
        case first =>
          go_region_with (go_at_call 107; refine (KL.out _ ?_).mono ?_; (· first | exact bup HBr.out HBC.out | exact bup HBr.out (bdr HBC.out)); rintro e wn ⟨rfl, hbn⟩; have HBN := Lib.hid (show Below wr.heap.size wr wn by first | exact bup HBC.out hbn | exact bup (bdr HBC.out) hbn); have hx := (show wn.heap[B]? = some (.cells #[.int .i64 (y0 + k), .int .i64 (C + (rz * oz + 50000) / 100000), .int .i64 (F + rz), .int .i64 0] 140 (0, 0)) by first | exact keep_box hbn HXB.out | exact keep_box (w := wc.drew) hbn HXB.out); have t0 := keepB HBN.out r0; have t1 := keepB HBN.out r1; have t2 := keepB HBN.out r2; have p2 := cell_heap (i := 2) hx rfl; have p3 := cell_heap (i := 3) hx rfl; have g3 := frozen_of_row wn _ 3 _ _ hx; have HX2 := Lib.hid hx; clear hx hbn)
          all_goals (go_wp2_with fail; go_meet)
          all_goals (try simp only [hw7])
          all_goals exact ⟨heap_setCell_same _ _ 3 _ _ _ HX2.out, bset HBN.out hB _⟩
        case rest =>
          obtain ⟨hX, hBx⟩ := hcut
          clear s0 s1 s2 x0 x1 x2 x3 f3 HXB HBC
          have x0 := cell_heap (i := 0) hX rfl
          have x1 := cell_heap (i := 1) hX rfl
          have x2 := cell_heap (i := 2) hX rfl
          have x3 := cell_heap (i := 3) hX rfl
          have hO := ownsRow_belowZ HO.out hBx
          have HBN := Lib.hid (bup HBR.out hBx)
          have hzn := HBN.out.size
          have HO2 := Lib.hid hO
          have HT1 := Lib.hid (show inB (C + (rz * oz + 50000) / 100000) (-1000000000000000) 1000000000000000 = true from inB_iff.2 (by omega))
          have HT2 := Lib.hid (show inB (F + rz) (-1000000000000000) 1000000000000000 = true from inB_iff.2 (by omega))
          have HT3 := Lib.hid (show inB (T + (F + rz)) (-1000000000000000) 1000000000000000 = true from inB_iff.2 (by omega))
          have HSN := Lib.hid (show flatE encSvc ((List.range (k + 1)).map (prjS R y0 L)) = flatE encSvc ((List.range k).map (prjS R y0 L)) ++ encSvc ⟨y0 + k, C + (rz * oz + 50000) / 100000, F + rz, T + (F + rz)⟩ by rw [svc_snoc, flatE_snoc, HPS.out])
          obtain ⟨M, hM⟩ : ∃ M, flatE encSvc ((List.range k).map (prjS R y0 L)) = M := ⟨_, rfl⟩
          rw [hM] at hO HSN
          have HXc := Lib.hid hX
          clear hX hBx hM r0 r1 r2
          go_wp2_with (first | (go_at_call 108; refine (total_any _ _).mono ?_; (first | rw [HT1.out] | rw [HT2.out] | rw [HT3.out]); rintro e w' ⟨rfl, rfl⟩) | (at_builtin; go_must (refine wpList_append_own _ rfl _ _ 81 rfl w1.heap.size 140 i1 (.agg #[.int .i64 0, .int .i64 0, .int .i64 0, .int .i64 0]) 4 32 Try.underlying81 hi hz0 hz1 hz2 rfl (by decide) _ k M rfl (hO.alloc _) ⟨wc.heap.size, 0, none⟩ 1 1 (encSvc ⟨y0 + k, C + (rz * oz + 50000) / 100000, F + rz, T + (F + rz)⟩) rfl rfl (newsL _ _ _) (oneSvc _) (by unfold maxLen; omega) (by omega) (by simp; omega) ?_); intro v5 w5 hown5 hg5 _; have hX5 := (hg5.block B (by have := (Array.getElem?_eq_some_iff.1 HXc.out).1; simp; omega) (fun e => by have := (HO.out.lt B e.symm).2; omega)).trans ((Below.heap_alloc _ _ _ (Array.getElem?_eq_some_iff.1 HXc.out).1).trans HXc.out); have hc5 := cell_heap (i := 2) hX5 rfl; have HB5 := Lib.hid ((bal HBN.out _).grown hg5 (by simp; omega) (fun q hq => (HO2.out.lt q hq).1)); have HOW := Lib.hid hown5; clear hX5 hg5 hown5))
          go_roundw
          case rel => exact ⟨k + 1, by omega, by go_num, by rw [hrs.out], by rw [hor.out], by rw [HSN.out]; exact HOW.out, HB5.out⟩
          case measure => simp [intOf]; omega
    · obtain rfl : k = n3 := by omega
      have HO2 := Lib.hid (ownsRow_baseZ HO.out (b' := w.heap.size) (by omega))
      obtain ⟨fo, fc, rfl⟩ := own_slice0 hown
      have HEND := Lib.hid (show prL R y0 L = (List.range k).map (prjS R y0 L) by rw [HLL.out, HL3.out])
      clear hown hbr
      go_wp2
      go_ret2
      exact ⟨.slice fo k fc, by rw [HE'.out]; rfl, by rw [HEND.out]; simpa using HO2.out, HBr.out⟩
end Go.Proofs.Ytpoidaenkjjdfaa
