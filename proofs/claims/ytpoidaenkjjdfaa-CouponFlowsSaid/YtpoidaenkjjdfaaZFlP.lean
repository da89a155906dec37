/- Flows in plain lists: what all flows of a right register come to. -/
import Derived.Test.YtpoidaenkjjdfaaZUnt
namespace Go.Proofs.Ytpoidaenkjjdfaa
open Go.RowKit
set_option linter.unusedVariables false
set_option linter.unusedSimpArgs false
/-- a sum over a list -/
def gS {α : Type} (f : α → Int) : List α → Int
  | [] => 0
  | x :: L => f x + gS f L
theorem gS_append {α : Type} (f : α → Int) (L M : List α) : gS f (L ++ M) = gS f L + gS f M := by
  induction L with
  | nil => simp [gS]
  | cons x L ih => simp only [List.cons_append, gS, ih]; omega
theorem gS_congr {α : Type} {f g : α → Int} : ∀ {L : List α}, (∀ x ∈ L, f x = g x) → gS f L = gS g L
  | [], _ => rfl
  | x :: L, h => by
    simp only [gS, h x (List.mem_cons_self ..), gS_congr (L := L) fun y hy => h y (List.mem_cons_of_mem _ hy)]
theorem gS_add {α : Type} (f g : α → Int) (L : List α) : gS (fun x => f x + g x) L = gS f L + gS g L := by
  induction L with
  | nil => rfl
  | cons x L ih => simp only [gS, ih]; omega
theorem gS_neg {α : Type} (f : α → Int) (L : List α) : gS (fun x => - f x) L = - gS f L := by
  induction L with
  | nil => rfl
  | cons x L ih => simp only [gS, ih]; omega
theorem gS_zero {α : Type} (L : List α) : gS (fun _ : α => 0) L = 0 := by
  induction L with
  | nil => rfl
  | cons x L ih => simp only [gS, ih]; omega
theorem gS_const {α : Type} (c : Int) (L : List α) : gS (fun _ : α => c) L = c * L.length := by
  induction L with
  | nil => simp [gS]
  | cons x L ih => simp only [gS, ih, List.length_cons]; rw [show ((L.length + 1 : Nat) : Int) = (L.length : Int) + 1 by omega, Int.mul_add]; omega
theorem gS_swap {α β : Type} (f : α → β → Int) (L : List α) (M : List β) : gS (fun x => gS (f x) M) L = gS (fun y => gS (fun x => f x y) L) M := by
  induction L with
  | nil => simp only [gS]; exact (gS_zero M).symm
  | cons x L ih => simp only [gS, ih]; exact (gS_add (f x) (fun y => gS (fun x => f x y) L) M).symm
theorem gS_perm {α : Type} (f : α → Int) {L M : List α} (h : L.Perm M) : gS f L = gS f M := by
  induction h with
  | nil => rfl
  | cons x _ ih => simp only [gS, ih]
  | swap x y l => simp only [gS]; omega
  | trans _ _ a b => exact a.trans b
theorem gS_flat {α β : Type} (f : β → Int) (g : α → List β) (L : List α) : gS f (L.flatMap g) = gS (fun x => gS f (g x)) L := by
  induction L with
  | nil => rfl
  | cons x L ih => simp only [List.flatMap_cons, gS_append, gS, ih]
/-- one of the list -/
theorem gS_one {α : Type} {p : α → Bool} {c : Int} : ∀ {L : List α} {k : Nat} {x : α}, L[k]? = some x → p x = true → (∀ j y, L[j]? = some y → p y = true → j = k) → gS (fun y => if p y = true then c else 0) L = c
  | [], k, x, h, _, _ => by simp at h
  | y :: L, 0, x, h, hp, hu => by
    simp only [List.getElem?_cons_zero, Option.some.injEq] at h
    subst h
    have : gS (fun y => if p y = true then c else 0) L = 0 := by
      rw [gS_congr (g := fun _ => 0) fun z hz => ?_, gS_zero]
      obtain ⟨j, hj⟩ := List.getElem?_of_mem hz
      by_cases hpz : p z = true
      · have := hu (j + 1) z (by simpa using hj) hpz; omega
      · rw [if_neg hpz]
    simp only [gS, this, hp, if_true]; omega
  | y :: L, k + 1, x, h, hp, hu => by
    have hy : p y = false := by
      cases hpy : p y
      · rfl
      · have := hu 0 y rfl hpy; omega
    have ih := gS_one (c := c) (L := L) (k := k) (by simpa using h) hp (fun j z hj hz => by have := hu (j + 1) z (by simpa using hj) hz; omega)
    simp only [gS, hy, ih]; simp
def flA (f : Flow) : Int := f.a
theorem flF_sum (x : Sec) (d c : Int) (h : 0 ≤ c) : gS flA (flF x d c) = -c := by
  unfold flF
  split
  · simp [gS, flA]
  · simp only [gS]; omega
theorem flF_ok (x : Sec) (d c : Int) : ∀ f ∈ flF x d c, f.day % 7 < 5 ∧ f.a < 0 ∧ f.kind = 4 ∧ -c ≤ f.a := by
  intro f hf
  unfold flF at hf
  split at hf
  · simp only [List.mem_singleton] at hf
    subst hf
    exact ⟨(nxD_bd d).2.2, by simp only; omega, rfl, Int.le_refl _⟩
  · simp at hf
/-- the days of a security -/
theorem days_of {x : Sec} (h : SecOk x.id x.un x.is x.ma x.ra x.ev) (h0 : x.ev ≠ 0) : ∃ N : Nat, 1 ≤ N ∧ daysL x.id x.un x.is x.ma x.ra x.ev = (List.range N).map (dayAt x.is x.ev) ∧ x.ma = dayAt x.is x.ev (N - 1) ∧ 1 ≤ x.ev := by
  have hb := secB_iff.2 h
  have hne : (x.ev != 0) = true := by simpa using h0
  have e : dayN x.id x.un x.is x.ma x.ra x.ev = ((x.ma - x.is) / (30 * x.ev)).toNat := by unfold dayN; rw [hb, hne]; rfl
  have key : ∀ q : Int, 1 ≤ q → x.ma - x.is = 30 * x.ev * q → 1 ≤ x.ev → ∃ N : Nat, 1 ≤ N ∧ daysL x.id x.un x.is x.ma x.ra x.ev = (List.range N).map (dayAt x.is x.ev) ∧ x.ma = dayAt x.is x.ev (N - 1) ∧ 1 ≤ x.ev := fun q hq hm hev => by
    have hd : (x.ma - x.is) / (30 * x.ev) = q := by rw [hm]; exact Int.mul_ediv_cancel_left q (by omega)
    rw [hd] at e
    refine ⟨q.toNat, by omega, by unfold daysL; rw [e], ?_, hev⟩
    unfold dayAt
    have : ((q.toNat - 1 : Nat) : Int) + 1 = q := by omega
    rw [this]; omega
  have m0 := h.ma0
  rcases h.ev with ⟨h1, -, -⟩ | ⟨h1, h2⟩ | ⟨h1, h2⟩ | ⟨h1, h2⟩ | ⟨h1, h2⟩
  · exact absurd h1 h0
  · exact key ((x.ma - x.is) / 30) (by omega) (by rw [h1]; omega) (by omega)
  · exact key ((x.ma - x.is) / 90) (by omega) (by rw [h1]; omega) (by omega)
  · exact key ((x.ma - x.is) / 180) (by omega) (by rw [h1]; omega) (by omega)
  · exact key ((x.ma - x.is) / 360) (by omega) (by rw [h1]; omega) (by omega)
theorem dayAt_mono {is ev : Int} (h : 1 ≤ ev) {j k : Nat} (hjk : j < k) : dayAt is ev j + 30 ≤ dayAt is ev k := by
  unfold dayAt
  have a : 30 * ev * ((j : Int) + 1) + 30 * ev ≤ 30 * ev * ((k : Int) + 1) := by
    have : 30 * ev * ((j : Int) + 1 + 1) ≤ 30 * ev * ((k : Int) + 1) := Int.mul_le_mul_of_nonneg_left (by omega) (by omega)
    rw [Int.mul_add (30 * ev) ((j : Int) + 1) 1] at this; omega
  omega
theorem duL_in {x : Sec} (h : SecOk x.id x.un x.is x.ma x.ra x.ev) : ∀ d ∈ duL x, inB d 0 35990 = true := by
  intro d hd
  rw [inB_iff]
  have h0 := h.is0
  have h1 := h.ma2
  have h2 := h.ma0
  unfold duL at hd
  split at hd
  · simp only [List.mem_singleton] at hd; omega
  · rename_i hev
    obtain ⟨N, hN, e, em, he⟩ := days_of h hev
    rw [e, List.mem_map] at hd
    obtain ⟨k, hk, rfl⟩ := hd
    rw [List.mem_range] at hk
    have g := dayAt_ge x.is x.ev k he
    by_cases hkn : k = N - 1
    · rw [hkn, ← em]; omega
    · have := dayAt_mono (is := x.is) he (show k < N - 1 by omega); omega
/-- what is due on a holding on a day -/
def totH (x : Sec) (d : Int) (y : Hold) : Int := sumD1 (plL x d y) + sumD2 (plL x d y)
theorem dueL_sum (day s h kind c : Int) : sumD1 (dueL day s h kind c) + sumD2 (dueL day s h kind c) = c := by
  unfold dueL
  split
  · rename_i h0; simp only [sumD1, sumD2]; omega
  · simp only [sumD1, sumD2]; split <;> omega
theorem totH_eq {x : Sec} (h : SecOk x.id x.un x.is x.ma x.ra x.ev) (d : Int) {y : Hold} (hy : HoldBd y) : totH x d y = (if d ∈ daysL x.id x.un x.is x.ma x.ra x.ev then cpN x.id x.un x.is x.ma x.ra x.ev y.a else 0) + (if decide (d = x.ma) = true then y.a else 0) := by
  have hc := ccE_of h hy.1 hy.2
  unfold totH plL ofL
  rw [hc, if_pos (by unfold ofE; simp)]
  rw [sumD1_append, sumD2_append]
  have e1 := dueL_sum d y.s y.h 1 (cpN x.id x.un x.is x.ma x.ra x.ev y.a)
  have e2 := dueL_sum d y.s y.h 2 y.a
  by_cases h1 : d ∈ daysL x.id x.un x.is x.ma x.ra x.ev
  · by_cases h2 : d = x.ma
    · simp only [h1, h2, decide_true, if_true] at e1 e2 ⊢
      rw [h2] at h1
      simp only [h1, decide_true, if_true]
      omega
    · simp only [h1, h2, decide_true, decide_false, if_true, Bool.false_eq_true, if_false, sumD1, sumD2]; omega
  · by_cases h2 : d = x.ma
    · rw [h2] at h1 e2
      simp only [h1, h2, decide_true, decide_false, if_true, Bool.false_eq_true, if_false, sumD1, sumD2]; omega
    · simp only [h1, h2, decide_false, Bool.false_eq_true, if_false, sumD1, sumD2]; omega
/-- all that a holding brings -/
def wantX (x : Sec) (y : Hold) : Int := cpN x.id x.un x.is x.ma x.ra x.ev y.a * (daysL x.id x.un x.is x.ma x.ra x.ev).length + y.a
theorem tot_all {x : Sec} (h : SecOk x.id x.un x.is x.ma x.ra x.ev) {y : Hold} (hy : HoldBd y) : gS (fun d => totH x d y) (duL x) = wantX x y := by
  unfold wantX
  by_cases hev : x.ev = 0
  · have e : daysL x.id x.un x.is x.ma x.ra x.ev = [] := by unfold daysL dayN; rw [hev]; simp
    unfold duL
    rw [if_pos hev]
    simp only [gS, totH_eq h x.ma hy, e]
    simp
  · obtain ⟨N, hN, e, em, he⟩ := days_of h hev
    have e2 : duL x = daysL x.id x.un x.is x.ma x.ra x.ev := by unfold duL; rw [if_neg hev]
    rw [e2]
    rw [gS_congr (g := fun d => cpN x.id x.un x.is x.ma x.ra x.ev y.a + (if decide (d = x.ma) = true then y.a else 0)) (fun d hd => by rw [totH_eq h d hy, if_pos hd])]
    rw [gS_add, gS_const]
    congr 1
    refine gS_one (p := fun d => decide (d = x.ma)) (k := N - 1) (x := x.ma) ?_ (by simp) ?_
    · rw [e, List.getElem?_map, List.getElem?_range (by omega), em]; rfl
    · intro j d hj hd
      rw [e, List.getElem?_map, Option.map_eq_some_iff] at hj
      obtain ⟨q, hq, rfl⟩ := hj
      obtain ⟨hjl, hjq⟩ := List.getElem?_eq_some_iff.1 hq
      rw [List.getElem_range] at hjq
      rw [List.length_range] at hjl
      subst hjq
      simp only [decide_eq_true_eq] at hd
      rw [em] at hd
      by_cases hjn : j = N - 1
      · exact hjn
      · have := dayAt_mono (is := x.is) he (show j < N - 1 by omega); omega
theorem sm_gS (x : Sec) (d : Int) (L : List Hold) : smC x d L + smP x d L = gS (fun y => if y.s = x.id then totH x d y else 0) L := by
  induction L with
  | nil => rfl
  | cons y L ih =>
    simp only [smC, smP, gS, ← ih]
    unfold totH
    split <;> omega
/-- what a holding of a register brings -/
def wantH (R : Reg) (y : Hold) : Int := match findS R.secs y.s with | some x => wantX x y | none => 0
theorem secs_one {c : Sec → Int} : ∀ {p : Int} {L : List Sec} {id : Int} {x : Sec}, secsB p L = true → findS L id = some x → gS (fun s => if id = s.id then c s else 0) L = c x
  | _, [], _, _, _, h => by simp [findS] at h
  | p, s :: L, id, x, hb, hf => by
    rw [secsB_cons, Bool.and_eq_true, Bool.and_eq_true] at hb
    simp only [findS] at hf
    split at hf
    · rename_i he
      cases hf
      have : gS (fun s' => if id = s'.id then c s' else 0) L = 0 := by
        rw [gS_congr (g := fun _ => 0) fun z hz => ?_, gS_zero]
        have := secsB_gt hb.2.2 z hz
        rw [if_neg (by omega)]
      simp only [gS, this]
      rw [if_pos he.symm]; omega
    · rename_i he
      have ih := secs_one (c := c) hb.2.2 hf
      simp only [gS, ih]
      rw [if_neg (by omega)]; omega
theorem flows_sum {R : Reg} (h : RgOk R) : gS flA (flR R 0 35990) = - gS (wantH R) R.hs := by
  have hsec : ∀ x ∈ R.secs, SecOk x.id x.un x.is x.ma x.ra x.ev := fun x hx => secB_iff.1 (h.sec x hx)
  have hbd := holdBd_of h
  have step1 : gS flA (flR R 0 35990) = gS (fun x => - gS (fun y => if y.s = x.id then wantX x y else 0) R.hs) R.secs := by
    unfold flR
    rw [gS_flat]
    refine gS_congr fun x hx => ?_
    have hs := hsec x hx
    unfold flS
    rw [gS_flat, gS_congr (g := fun d => - gS (fun y => if y.s = x.id then totH x d y else 0) R.hs) (fun d hd => ?_)]
    · rw [gS_neg]
      congr 1
      rw [gS_swap]
      refine gS_congr fun y hy => ?_
      by_cases hq : y.s = x.id
      · simp only [hq, if_true]; exact tot_all hs (hbd y hy)
      · simp only [hq, if_false]; exact gS_zero _
    · have b := sm_bd x d hbd
      unfold flD
      rw [if_pos (duL_in hs d hd), gS_append, flF_sum _ _ _ b.1.1, flF_sum _ _ _ b.2.1, ← sm_gS]
      omega
  rw [step1, gS_neg, gS_swap]
  congr 1
  refine gS_congr fun y hy => ?_
  have hf := at_find h 36000 y (by rw [h.last]; exact hy)
  obtain ⟨x, hx⟩ := hf
  unfold wantH
  rw [hx]
  exact secs_one (c := fun s => wantX s y) h.secs hx
theorem flR_ok (R : Reg) (a b : Int) : ∀ f ∈ flR R a b, f.day % 7 < 5 ∧ f.a < 0 ∧ f.kind = 4 := by
  intro f hf
  unfold flR at hf
  obtain ⟨x, -, hf⟩ := List.mem_flatMap.1 hf
  unfold flS at hf
  obtain ⟨d, -, hf⟩ := List.mem_flatMap.1 hf
  unfold flD at hf
  split at hf
  · rcases List.mem_append.1 hf with hf | hf
    all_goals have := flF_ok _ _ _ f hf; exact ⟨this.1, this.2.1, this.2.2.1⟩
  · simp at hf
end Go.Proofs.Ytpoidaenkjjdfaa
