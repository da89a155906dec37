/- money.Parts in plain. Contracts of money's weight, checked, Share, Percent. slices.IndexFunc, ContainsFunc at []int, for any closure that tells a plain test. -/
import Derived.Test.YtenbbmmbpjjjpaaZSortR
import Derived.Test.YtenbbmmbpjjjpaaZCmpI
import Derived.Test.YtenbbmmbpjjjpaaZSortF
import Derived.Test.YtenbbmmbpjjjpaaZRegP
import Derived.Lib.Hide
import Derived.Shelf.Abstract
namespace Go.Proofs.Ytenbbmmbpjjjpaa
open Go.RowKit
set_option linter.unusedVariables false
set_option linter.unusedSimpArgs false
def sumI : List Int → Int
  | [] => 0
  | x :: L => x + sumI L
theorem sumI_append (A B : List Int) : sumI (A ++ B) = sumI A + sumI B := by
  induction A with
  | nil => simp [sumI]
  | cons x A ih => simp only [List.cons_append, sumI, ih]; omega
def wgB (w : Int) : Bool := inB w 0 1000000
/-- the error of a division into parts -/
def partsE (t : Int) (W : List Int) : Int :=
  if inB t 0 1000000000000 then (if W.any (fun w => !wgB w) then 2 else if 200 < W.length then 3 else if sumI W = 0 then 1 else 0) else 2
def baseP (t s : Int) (W : List Int) : List Int := W.map fun w => t * w / s
def rstP (t s : Int) (W : List Int) : List Int := W.map fun w => t * w % s
def rAt (t s : Int) (W : List Int) (i : Int) : Int := (rstP t s W).getD i.toNat 0
def cfP (t s : Int) (W : List Int) (i k : Int) : Int := cmpI (rAt t s W k) (rAt t s W i)
def idxs (n : Nat) : List Int := (List.range n).map fun j : Nat => (j : Int)
def ordP (t s : Int) (W : List Int) : List Int := srt (ltc (cfP t s W)) (idxs W.length)
def leftP (t s : Int) (W : List Int) : Int := t - sumI (baseP t s W)
/-- one more at some places -/
def bump : List Int → List Int → List Int
  | L, [] => L
  | L, i :: I => bump (L.set i.toNat (L.getD i.toNat 0 + 1)) I
def partsR (t s : Int) (W : List Int) : List Int := bump (baseP t s W) ((ordP t s W).take (leftP t s W).toNat)
def partsL (t : Int) (W : List Int) : List Int := if partsE t W = 0 then partsR t (sumI W) W else []
theorem bump_append : ∀ (L I J : List Int), bump L (I ++ J) = bump (bump L I) J
  | L, [], J => rfl
  | L, i :: I, J => by rw [List.cons_append, bump, bump, bump_append]
theorem bump_length : ∀ (L I : List Int), (bump L I).length = L.length
  | L, [] => rfl
  | L, i :: I => by rw [bump, bump_length, List.length_set]
theorem bump_bd : ∀ (L I : List Int) {B : Int}, (∀ x ∈ L, 0 ≤ x ∧ x ≤ B) → ∀ x ∈ bump L I, 0 ≤ x ∧ x ≤ B + I.length
  | L, [], B, h => fun x hx => by have := h x hx; simp; omega
  | L, i :: I, B, h => fun x hx => by
    rw [bump] at hx
    have key : ∀ y ∈ L.set i.toNat (L.getD i.toNat 0 + 1), 0 ≤ y ∧ y ≤ B + 1 := fun y hy => by
      by_cases hi : i.toNat < L.length
      · rcases List.mem_or_eq_of_mem_set hy with hy | hy
        · have := h y hy; omega
        · have := h _ (List.getElem_mem hi)
          rw [show L.getD i.toNat 0 = L[i.toNat] by simp [List.getD_eq_getElem?_getD, hi]] at hy
          omega
      · rw [List.set_eq_of_length_le (by omega)] at hy
        have := h y hy; omega
    have := bump_bd (L.set i.toNat (L.getD i.toNat 0 + 1)) I key x hx
    simp only [List.length_cons]; omega
theorem ltP_wk (f : Int → Int) : Wk (ltc fun i k => cmpI (f k) (f i)) := by
  have e : ∀ i k, ltc (fun i k => cmpI (f k) (f i)) i k = decide (f k < f i) := fun i k => by
    show decide ((if f k < f i then -1 else if f i < f k then 1 else 0 : Int) < 0) = decide (f k < f i)
    rw [decide_eq_decide]
    repeat' split
    all_goals omega
  constructor
  · intro x y h; rw [e] at h ⊢; simp at h ⊢; omega
  · intro x y z h k; rw [e] at h k ⊢; simp at h k ⊢; omega
theorem cfP_wk (t s : Int) (W : List Int) : Wk (ltc (cfP t s W)) := ltP_wk (rAt t s W)
theorem idxs_length (n : Nat) : (idxs n).length = n := by simp [idxs]
theorem idxs_get {n k : Nat} (h : k < n) : (idxs n)[k]? = some (k : Int) := by simp [idxs, h]
theorem idxs_mem {n : Nat} {x : Int} (h : x ∈ idxs n) : 0 ≤ x ∧ x < n := by
  simp only [idxs, List.mem_map, List.mem_range] at h
  obtain ⟨j, hj, rfl⟩ := h
  omega
theorem idxs_succ (n : Nat) : idxs (n + 1) = idxs n ++ [(n : Int)] := by simp [idxs, List.range_succ]
theorem ordP_mem {t s : Int} {W : List Int} {x : Int} (h : x ∈ ordP t s W) : 0 ≤ x ∧ x < W.length := idxs_mem ((srt_mem _ _).1 h)
theorem ordP_length (t s : Int) (W : List Int) : (ordP t s W).length = W.length := by rw [ordP, srt_length, idxs_length]
theorem sum_split (t s : Int) : ∀ W : List Int, s * sumI (baseP t s W) + sumI (rstP t s W) = t * sumI W
  | [] => by simp [baseP, rstP, sumI]
  | w :: W => by
    have ih := sum_split t s W
    simp only [baseP, rstP, List.map_cons, sumI] at ih ⊢
    have := Int.mul_ediv_add_emod (t * w) s
    rw [Int.mul_add, Int.mul_add]; omega
theorem rst_bd {t s : Int} (hs : 0 < s) : ∀ W : List Int, 0 ≤ sumI (rstP t s W) ∧ sumI (rstP t s W) ≤ W.length * (s - 1)
  | [] => by simp [rstP, sumI]
  | w :: W => by
    have ih := rst_bd hs (t := t) W
    simp only [rstP, List.map_cons, sumI, List.length_cons] at ih ⊢
    have h1 := Int.emod_nonneg (t * w) (show s ≠ 0 by omega)
    have h2 := Int.emod_lt_of_pos (t * w) hs
    have : ((W.length + 1 : Nat) : Int) * (s - 1) = (W.length : Int) * (s - 1) + (s - 1) := by
      rw [show ((W.length + 1 : Nat) : Int) = (W.length : Int) + 1 by omega, Int.add_mul, Int.one_mul]
    omega
theorem sumI_nonneg : ∀ {L : List Int}, (∀ x ∈ L, 0 ≤ x) → 0 ≤ sumI L
  | [], _ => by simp [sumI]
  | x :: L, h => by
    have := sumI_nonneg (fun y hy => h y (List.mem_cons_of_mem _ hy))
    have := h x (List.mem_cons_self ..)
    simp only [sumI]; omega
theorem sumI_le : ∀ {L : List Int} {B : Int}, (∀ x ∈ L, x ≤ B) → sumI L ≤ L.length * B
  | [], B, _ => by simp [sumI]
  | x :: L, B, h => by
    have h1 := sumI_le (fun y hy => h y (List.mem_cons_of_mem _ hy))
    have h2 := h x (List.mem_cons_self ..)
    have : ((L.length + 1 : Nat) : Int) * B = (L.length : Int) * B + B := by
      rw [show ((L.length + 1 : Nat) : Int) = (L.length : Int) + 1 by omega, Int.add_mul, Int.one_mul]
    simp only [sumI, List.length_cons]; omega
theorem sumI_mem {L : List Int} {w : Int} (h : ∀ x ∈ L, 0 ≤ x) (hw : w ∈ L) : w ≤ sumI L := by
  induction L with
  | nil => simp at hw
  | cons x L ih =>
    have h1 := sumI_nonneg (fun y hy => h y (List.mem_cons_of_mem _ hy))
    have h2 := h x (List.mem_cons_self ..)
    simp only [sumI]
    rcases List.mem_cons.1 hw with rfl | hw
    · omega
    · have := ih (fun y hy => h y (List.mem_cons_of_mem _ hy)) hw; omega
theorem left_bd {t : Int} {W : List Int} (h0 : 0 ≤ t) (hs : 0 < sumI W) : 0 ≤ leftP t (sumI W) W ∧ leftP t (sumI W) W < W.length := by
  have e := sum_split t (sumI W) W
  obtain ⟨r0, r1⟩ := rst_bd (t := t) hs W
  obtain ⟨B, hB⟩ : ∃ B, sumI (baseP t (sumI W) W) = B := ⟨_, rfl⟩
  obtain ⟨s, hS⟩ : ∃ s, sumI W = s := ⟨_, rfl⟩
  obtain ⟨R, hR⟩ : ∃ R, sumI (rstP t (sumI W) W) = R := ⟨_, rfl⟩
  unfold leftP
  rw [hB]
  rw [hR] at e r0 r1
  rw [hB] at e
  rw [hS] at e r1 hs
  have e2 : s * (t - B) = R := by rw [Int.mul_sub, Int.mul_comm s t]; omega
  obtain ⟨x, hx⟩ : ∃ x, t - B = x := ⟨_, rfl⟩
  rw [hx] at e2 ⊢
  have hl : 0 < W.length := by
    cases W with
    | nil => simp [sumI] at hS; omega
    | cons => simp
  constructor
  · rcases Int.lt_or_le x 0 with h | h
    · have := Int.mul_neg_of_pos_of_neg hs h; omega
    · exact h
  · rcases Int.lt_or_le x W.length with h | h
    · exact h
    · have h1 := Int.mul_le_mul_of_nonneg_left h (show 0 ≤ s by omega)
      have h2 : (W.length : Int) * (s - 1) = W.length * s - W.length := by rw [Int.mul_sub, Int.mul_one]
      rw [Int.mul_comm s (W.length : Int)] at h1
      omega
theorem base_bd {t : Int} {W : List Int} (h0 : 0 ≤ t) (hs : 0 < sumI W) (hw : ∀ w ∈ W, 0 ≤ w) : ∀ x ∈ baseP t (sumI W) W, 0 ≤ x ∧ x ≤ t := by
  intro x hx
  simp only [baseP, List.mem_map] at hx
  obtain ⟨w, hwm, rfl⟩ := hx
  have h1 := hw w hwm
  have h2 := sumI_mem hw hwm
  have h3 := Int.mul_nonneg h0 h1
  refine ⟨Int.ediv_nonneg h3 (by omega), ?_⟩
  have h4 := Int.mul_le_mul_of_nonneg_left h2 h0
  exact Int.le_trans (Int.ediv_le_ediv hs h4) (by rw [Int.mul_ediv_cancel _ (by omega)]; exact Int.le_refl _)
theorem sum_base_take {t : Int} {W : List Int} (h0 : 0 ≤ t) (hs : 0 < sumI W) (hw : ∀ w ∈ W, 0 ≤ w) (k : Nat) : 0 ≤ sumI ((baseP t (sumI W) W).take k) ∧ sumI ((baseP t (sumI W) W).take k) ≤ t := by
  have hb := base_bd h0 hs hw
  have h1 := left_bd h0 hs
  unfold leftP at h1
  have e : sumI ((baseP t (sumI W) W).take k) + sumI ((baseP t (sumI W) W).drop k) = sumI (baseP t (sumI W) W) := by rw [← sumI_append, List.take_append_drop]
  have h2 := sumI_nonneg (L := (baseP t (sumI W) W).take k) (fun x hx => (hb x (List.mem_of_mem_take hx)).1)
  have h3 := sumI_nonneg (L := (baseP t (sumI W) W).drop k) (fun x hx => (hb x (List.mem_of_mem_drop hx)).1)
  omega
theorem sum_take {W : List Int} (hw : ∀ w ∈ W, 0 ≤ w ∧ w ≤ 1000000) (k : Nat) : 0 ≤ sumI (W.take k) ∧ sumI (W.take k) ≤ W.length * 1000000 := by
  refine ⟨sumI_nonneg fun x hx => (hw x (List.mem_of_mem_take hx)).1, ?_⟩
  have := sumI_le (L := W.take k) (B := 1000000) (fun x hx => (hw x (List.mem_of_mem_take hx)).2)
  have h2 : (W.take k).length ≤ W.length := by rw [List.length_take]; omega
  omega
theorem wg_all {W : List Int} (h : W.any (fun w => !wgB w) = false) : ∀ w ∈ W, 0 ≤ w ∧ w ≤ 1000000 := by
  intro w hw
  have := List.any_eq_false.1 h w hw
  simp only [Bool.not_eq_true', Bool.not_eq_false, wgB] at this
  exact inB_iff.1 this
end Go.Proofs.Ytenbbmmbpjjjpaa
namespace Go.Proofs.Ytenbbmmbpjjjpaa
open Go.RowKit
set_option linter.unusedVariables false

theorem ret_ab {a b a' b' : Int} (h : a = a' ∧ b = b') : Ending.returned (.tuple #[.int .i64 a, .int .i64 b]) = .returned (.tuple #[.int .i64 a', .int .i64 b']) := by
  obtain ⟨rfl, rfl⟩ := h; rfl
theorem weight_any (n : Int) (w : World) : Calls Try.prog 75 #[.int .i64 n] w fun e w' => e = .returned (.bool (inB n 0 1000000)) ∧ w = w' := by
  go_enter Try.func75, Try.ntmps75
  go_wp2
  all_goals (go_ret; exact ⟨ret_bool (by simp only [inB]; first | (rw [Bool.eq_iff_iff]; simp; omega) | (simp; omega)), rfl⟩)
/-- a number if it is an amount -/
def ckV (n : Int) : Int := if inB n 0 1000000000000 then n else 0
def ckE (n : Int) : Int := if inB n 0 1000000000000 then 0 else 2
/-- a share -/
def shOk (a n d : Int) : Bool := inB a 0 1000000000000 && inB n 0 1000000 && inB d 0 1000000 && d != 0
def shV (a n d : Int) : Int := if shOk a n d then ckV ((2 * a * n + d) / (2 * d)) else 0
def shE (a n d : Int) : Int := if shOk a n d then ckE ((2 * a * n + d) / (2 * d)) else 2
theorem shOk_iff {a n d : Int} : shOk a n d = true ↔ (0 ≤ a ∧ a ≤ 1000000000000) ∧ (0 ≤ n ∧ n ≤ 1000000) ∧ (1 ≤ d ∧ d ≤ 1000000) := by
  simp only [shOk, Bool.and_eq_true, inB_iff, bne_iff_ne, ne_eq]
  omega
end Go.Proofs.Ytenbbmmbpjjjpaa
namespace Go.Proofs.Ytenbbmmbpjjjpaa
open Go.RowKit
set_option linter.unusedVariables false
set_option linter.unusedSimpArgs false
/-- the place of the first element with p, or -1 -/
def idxI {α : Type} (p : α → Bool) : List α → Int
  | [] => -1
  | x :: L => if p x then 0 else if idxI p L < 0 then -1 else idxI p L + 1
theorem idxI_none {α : Type} {p : α → Bool} : ∀ {L : List α}, (∀ y ∈ L, p y = false) → idxI p L = -1
  | [], _ => rfl
  | x :: L, h => by
    rw [idxI, h x (List.mem_cons_self ..), if_neg (by simp), idxI_none (fun y hy => h y (List.mem_cons_of_mem _ hy))]; rfl
theorem idxI_some {α : Type} {p : α → Bool} : ∀ {L : List α} {k : Nat} {x : α}, L[k]? = some x → p x = true → (∀ y ∈ L.take k, p y = false) → idxI p L = k
  | [], k, x, h, _, _ => by simp at h
  | z :: L, 0, x, h, hp, _ => by
    simp only [List.getElem?_cons_zero, Option.some.injEq] at h
    subst h
    rw [idxI, hp]; rfl
  | z :: L, k + 1, x, h, hp, hk => by
    simp only [List.getElem?_cons_succ] at h
    have ih := idxI_some h hp (fun y hy => hk y (by simp [hy]))
    rw [idxI, hk z (by simp), if_neg (by simp), ih, if_neg (by omega)]; rfl
theorem idxI_any {α : Type} (p : α → Bool) (L : List α) : decide (0 ≤ idxI p L) = L.any p := by
  induction L with
  | nil => rfl
  | cons x L ih =>
    rw [idxI, List.any_cons]
    cases hp : p x
    · rw [if_neg (by simp), Bool.false_or, ← ih]
      by_cases h : idxI p L < 0
      · rw [if_pos h]; simp; omega
      · rw [if_neg h]; simp; omega
    · rw [if_pos rfl]; simp
theorem take_false {α : Type} {p : α → Bool} {L : List α} {k : Nat} {x : α} (h : L[k]? = some x) (hp : p x = false) (hk : ∀ y ∈ L.take k, p y = false) : ∀ y ∈ L.take (k + 1), p y = false := by
  rw [take_snocZ h]
  intro y hy
  rcases List.mem_append.1 hy with hy | hy
  · exact hk y hy
  · rw [List.mem_singleton.1 hy]; exact hp
/-- the closure F, bound to cb, tells p of the elements of L -/
def Tells {α : Type} (F : Nat) (cb : Array Value) (val : α → Value) (p : α → Bool) (L : List α) (w : World) : Prop :=
  ∀ W, Below w.heap.size w W → ∀ x ∈ L, Calls Try.prog F (#[val x] ++ cb) W fun e w' => e = .returned (.bool (p x)) ∧ Below W.heap.size W w'
set_option maxHeartbeats 1000000 in
theorem indexI_any (F : Nat) (cb : Array Value) (p : Int → Bool) (P : Nat → Prop) (v : Value) (L : List Int) (w : World) (eg : ∀ args w, (callFunc F args).run Try.prog w = .ok (.enter F args) w)
    (hF : Tells F cb (Value.int .i64) p L w) (hS : Sl 1 encI P w v L) (hl : L.length ≤ 1000000) :
    Calls Try.prog 89 #[v, .func (.func F) #[] cb] w fun e w' => e = .returned (.int .i64 (idxI p L)) ∧ Below w.heap.size w w' := by
  obtain ⟨ao, n, c, rfl, hn, hnc, hcm⟩ := hS.shape
  have HS := Lib.hid hS
  have HN := Lib.hid hn
  have HF := Lib.hid hF
  have hn1 : n ≤ 1000000 := by omega
  clear hS hF hn
  go_enter Try.func89, Try.ntmps89
  go_wp2
  go_loopw [8] (fun iv wr => ∃ k : Nat, k ≤ n ∧ iv = .int .i64 k ∧ (∀ y ∈ L.take k, p y = false) ∧ Below w.heap.size w wr) (fun iv _ => n - (intOf iv).toNat)
  case atStart => exact ⟨0, by omega, rfl, by simp, brefl⟩
  case round =>
    obtain ⟨k, hk, rfl, hall, hbr⟩ := hrel
    have HA := Lib.hid hall
    have HBR := Lib.hid hbr
    by_cases hlt : k < n
    · obtain ⟨b, off, x, rfl, -, -, hx, hc⟩ := (HS.out.below hbr).int hlt
      have hcl := fun W (hW : Below wr.heap.size wr W) => HF.out W (bup hbr hW) x (List.mem_of_getElem? hx)
      have HX := Lib.hid hx
      obtain ⟨b0, hb0⟩ : ∃ b0, p x = b0 := ⟨_, rfl⟩
      rw [hb0] at hcl
      have HB0 := Lib.hid hb0
      clear hall hbr hx hb0
      cases b0
      · have hstep := Lib.hid (take_false HX.out HB0.out HA.out)
        go_wp2_with ((go_at_fn F; refine (hcl _ brefl).mono ?_; rintro e w1 ⟨rfl, hb1⟩))
        go_roundw
        case rel => exact ⟨k + 1, by omega, by go_num, hstep.out, bup HBR.out hb1⟩
        case measure => simp [intOf]; omega
      · have hfin := Lib.hid (idxI_some HX.out HB0.out HA.out)
        go_wp2_with ((go_at_fn F; refine (hcl _ brefl).mono ?_; rintro e w1 ⟨rfl, hb1⟩))
        go_ret
        exact ⟨ret_int hfin.out.symm, bup HBR.out hb1⟩
    · have hfin := Lib.hid (idxI_none (p := p) (L := L) (fun y hy => HA.out y (by rw [take_all (by have := HN.out; omega)]; exact hy)))
      clear hall hbr
      go_wp2
      go_ret
      exact ⟨ret_int hfin.out.symm, HBR.out⟩
theorem containsI_any (F : Nat) (cb : Array Value) (p : Int → Bool) (P : Nat → Prop) (v : Value) (L : List Int) (w : World) (eg : ∀ args w, (callFunc F args).run Try.prog w = .ok (.enter F args) w)
    (hF : Tells F cb (Value.int .i64) p L w) (hS : Sl 1 encI P w v L) (hl : L.length ≤ 1000000) :
    Calls Try.prog 73 #[v, .func (.func F) #[] cb] w fun e w' => e = .returned (.bool (L.any p)) ∧ Below w.heap.size w w' := by
  have HC := Lib.hid (indexI_any F cb p P v L w eg hF hS hl)
  have hf := idxI_any p L
  obtain ⟨i, hi⟩ : ∃ i, idxI p L = i := ⟨_, rfl⟩
  rw [hi] at HC hf
  rw [← hf]
  clear hf hi hF hS
  go_enter Try.func73, Try.ntmps73
  go_wp2_with (go_at_call 89; refine HC.out.mono ?_; rintro e w1 ⟨rfl, hb1⟩)
  go_ret
  exact ⟨rfl, hb1⟩
end Go.Proofs.Ytenbbmmbpjjjpaa
