/- Auction: a better price, and a bid left out, plainly. -/
import Derived.Test.YtenbbmmbpjjjpaaZL32O
namespace Go.Proofs.Ytenbbmmbpjjjpaa
open Go.RowKit
set_option linter.unusedVariables false
set_option linter.unusedSimpArgs false
/-! what a rank gives, by sums alone -/
structure Svd (t s v x : Int) : Prop where
  x0 : 0 ≤ x
  x1 : x ≤ v
  full : s ≤ t → x = v
  lt : x ≤ t
  part : t < s → t * v - s < x * s ∧ x * s < t * v + s
  lo : t ≤ s → t - (s - v) ≤ x
theorem sum_le2 : ∀ {p r : List Int}, p.length = r.length → (∀ (i : Nat) (x v : Int), p[i]? = some x → r[i]? = some v → x ≤ v) → ∀ (j : Nat) (x v : Int), p[j]? = some x → r[j]? = some v → sumI p - x ≤ sumI r - v
  | [], r, hl, h, j, x, v, hx, _ => by simp at hx
  | a :: p, [], hl, _, _, _, _, _, _ => by simp at hl
  | a :: p, b :: r, hl, h, j, x, v, hx, hv => by
    have hl2 : p.length = r.length := by simpa using hl
    have h2 : ∀ (i : Nat) (x v : Int), p[i]? = some x → r[i]? = some v → x ≤ v := fun i x v hx hv => h (i + 1) x v (by simpa using hx) (by simpa using hv)
    have h0 := h 0 a b rfl rfl
    simp only [sumI]
    cases j with
    | zero =>
      simp only [List.getElem?_cons_zero, Option.some.injEq] at hx hv
      subst hx hv
      have all : ∀ {p r : List Int}, p.length = r.length → (∀ (i : Nat) (x v : Int), p[i]? = some x → r[i]? = some v → x ≤ v) → sumI p ≤ sumI r := by
        intro p
        induction p with
        | nil => intro r hl _; have : r = [] := List.eq_nil_of_length_eq_zero (by simpa using hl.symm); subst this; exact Int.le_refl _
        | cons a p ih =>
          intro r hl h
          cases r with
          | nil => simp at hl
          | cons b r =>
            have h0 := h 0 a b rfl rfl
            have := ih (r := r) (by simpa using hl) fun i x v hx hv => h (i + 1) x v (by simpa using hx) (by simpa using hv)
            simp only [sumI]; omega
      have := all hl2 h2
      omega
    | succ j =>
      have := sum_le2 hl2 h2 j x v (by simpa using hx) (by simpa using hv)
      omega
theorem svd_ok {t : Int} {r : List Int} (o : RkOk t r) {j : Nat} {v : Int} (hv : r[j]? = some v) : ∃ x, (svd t r)[j]? = some x ∧ Svd t (sumI r) v x := by
  obtain ⟨x, hx, x0, x1, x2, x3, x4⟩ := svd_at o.t0 o.t1 o.l o.b hv
  refine ⟨x, hx, x0, x1, x2, x3, x4, fun hts => ?_⟩
  have e := svd_sum o.t0 o.t1 o.l o.b
  have hl := svd_len o.t0 o.t1 o.l o.b
  have := sum_le2 hl (fun i y u hy hu => by
    obtain ⟨z, hz, -, z1, -⟩ := svd_at o.t0 o.t1 o.l o.b hu
    rw [hy] at hz; cases hz; exact z1) j x v hx hv
  rw [e] at this
  omega
/-! sums over bids -/
/-- the lots of the bids that compete ahead of a price, and at it; of the free ones -/
def gtB (le p : Int) (b : Bid) : Int := if b.f = false ∧ le ≤ b.p ∧ p < b.p then b.a / 1000 else 0
def eqB (le p : Int) (b : Bid) : Int := if b.f = false ∧ le ≤ b.p ∧ b.p = p then b.a / 1000 else 0
def sumB (f : Bid → Int) (L : List Bid) : Int := sumI (L.map f)
theorem sumB_perm (f : Bid → Int) {A B : List Bid} (p : A.Perm B) : sumB f A = sumB f B := sumI_perm (p.map f)
theorem sumB_cons (f : Bid → Int) (b : Bid) (L : List Bid) : sumB f (b :: L) = f b + sumB f L := rfl
theorem part_sum2 {S : List Bid} {le : Int} {ps : List Int} (hn : ps.Nodup) : ∀ k, k ≤ S.length →
    sumI (ps.map fun p => sumI ((grpT S le p k).map (lotT S))) = sumI ((S.take k).map fun b => if b.f = false ∧ le ≤ b.p ∧ b.p ∈ ps then b.a / 1000 else 0)
  | 0, _ => by
    simp only [grpT, List.take_zero, List.map_nil, sumI]
    exact sum_zero ps
  | k + 1, hk => by
    have ih := part_sum2 (S := S) (le := le) hn k (by omega)
    obtain ⟨b, hb⟩ : ∃ b, S[k]? = some b := ⟨_, List.getElem?_eq_getElem (by omega)⟩
    rw [take_snocZ hb, List.map_append, sumI_append, ← ih]
    have e : (fun p => sumI ((grpT S le p (k + 1)).map (lotT S))) = fun p => sumI ((grpT S le p k).map (lotT S)) + (if p = b.p then (if b.f = false ∧ le ≤ b.p then b.a / 1000 else 0) else 0) := by
      funext p
      rw [grpT]
      by_cases hc : isC S le p k = true
      · rw [if_pos hc, List.map_append, sumI_append]
        have := (isC_iff hb).1 hc
        rw [if_pos this.2.2.symm, if_pos ⟨this.1, this.2.1⟩]
        simp only [List.map_cons, List.map_nil, sumI, lotT_at hb]; omega
      · rw [if_neg hc]
        by_cases hp : p = b.p
        · rw [if_pos hp, if_neg (fun q => hc ((isC_iff hb).2 ⟨q.1, q.2, hp.symm⟩))]; omega
        · rw [if_neg hp]; omega
    rw [e, sumI_add2]
    simp only [List.map_cons, List.map_nil, sumI]
    by_cases hm : b.p ∈ ps
    · rw [sum_ind hn hm]
      by_cases hc : b.f = false ∧ le ≤ b.p
      · rw [if_pos hc, if_pos ⟨hc.1, hc.2, hm⟩]; omega
      · rw [if_neg hc, if_neg (fun q => hc ⟨q.1, q.2.1⟩)]; omega
    · have hz : sumI (ps.map fun p => if p = b.p then (if b.f = false ∧ le ≤ b.p then b.a / 1000 else 0) else 0) = sumI (ps.map fun _ => (0 : Int)) := by
        congr 1
        refine List.map_congr_left fun p hp => ?_
        rw [if_neg (fun e : p = b.p => hm (by rw [← e]; exact hp))]
      rw [hz, sum_zero, if_neg (show ¬ (b.f = false ∧ le ≤ b.p ∧ b.p ∈ ps) from fun q => hm q.2.2)]; omega
theorem lfT_lo {left : Int} {RR : List (List Int)} : ∀ k, left - sumI ((RR.take k).map sumI) ≤ lfT left RR k
  | 0 => by simp [lfT, sumI]
  | k + 1 => by
    have ih := lfT_lo (left := left) (RR := RR) k
    rw [lfT]
    cases h : RR[k]? with
    | none =>
      rw [List.getD_eq_getElem?_getD, h]
      have hl : RR.length ≤ k := by simpa using h
      rw [List.take_of_length_le (show RR.length ≤ k + 1 by omega)]
      rw [List.take_of_length_le hl] at ih
      simp only [Option.getD_none, sumI]; omega
    | some r =>
      rw [List.getD_eq_getElem?_getD, h, take_snocZ h, List.map_append, sumI_append]
      simp only [Option.getD_some, List.map_cons, List.map_nil, sumI]
      omega
theorem desc_take {P : List Int} (h : P.Pairwise (fun a b => b < a)) {k : Nat} {p q : Int} (hk : P[k]? = some p) (hq : q ∈ P) : q ∈ P.take k ↔ p < q := by
  obtain ⟨l, hl⟩ := List.mem_iff_getElem?.1 hq
  constructor
  · intro hm
    obtain ⟨j, hj⟩ := List.mem_iff_getElem?.1 hm
    have hjk : j < k := by have := (List.getElem?_eq_some_iff.1 hj).1; rw [List.length_take] at this; omega
    rw [List.getElem?_take_of_lt hjk] at hj
    rw [List.pairwise_iff_getElem] at h
    obtain ⟨h1, rfl⟩ := List.getElem?_eq_some_iff.1 hj
    obtain ⟨h2, rfl⟩ := List.getElem?_eq_some_iff.1 hk
    exact h j k h1 h2 hjk
  · intro hlt
    have := desc_idx h hl hk hlt
    exact List.mem_iff_getElem?.2 ⟨l, by rw [List.getElem?_take_of_lt this]; exact hl⟩
/-- what is left for the competitive ones, by sums -/
def lvB (am sh : Int) (L : List Bid) : Int := am / 1000 - min (am / 1000 * sh / 100) (sumB askB L)
/-- what is left ahead of a price -/
def tB (am le sh : Int) (L : List Bid) (p : Int) : Int := max 0 (lvB am sh L - sumB (gtB le p) L)
theorem HdIn.lvB {am le sh : Int} {L : List Bid} (h : HdIn am le sh L) : lvC am sh (srB L) = Go.Proofs.Ytenbbmmbpjjjpaa.lvB am sh L := by
  unfold lvC Go.Proofs.Ytenbbmmbpjjjpaa.lvB sumB
  have o := h.rfOk
  rw [frN_eq, svd_sum o.t0 o.t1 o.l o.b, ← acT_all, h.asked]
/-- what a competitive bid got -/
theorem HdIn.got {am le sh : Int} {L : List Bid} (h : HdIn am le sh L) {b : Bid} (hb : b ∈ L) (hf : b.f = false) (hp : le ≤ b.p) (un : Bool) :
    ∃ g, gvA (hdA am le sh un L) b.bd b.num = g * 1000 ∧ Svd (tB am le sh L b.p) (sumB (eqB le b.p) L) (b.a / 1000) g := by
  obtain ⟨i, g, hi, h1, h2, h3⟩ := h.at hb
  refine ⟨g, h3 un, ?_⟩
  obtain ⟨k, j, hk, hj, hv, hr, hgg⟩ := h.comp h1 hf hp
  obtain ⟨x, hx, hs⟩ := svd_ok (h.rkOk hr) hv
  rw [h2, getD_some hx] at hgg
  cases hgg
  have hbl := h.rkOk hr
  have e1 : lfT (lvC am sh (srB L)) (rkC (srB L) le) k = tB am le sh L b.p := by
    have hend := lfT_end (RR := rkC (srB L) le) (left := lvC am sh (srB L)) (fun r hr => (sumI_bd (h.rk.k r hr) (h.rk.b r hr)).1) k
    have hlo := lfT_lo (RR := rkC (srB L) le) (left := lvC am sh (srB L)) k
    have hsum : sumI (((rkC (srB L) le).take k).map sumI) = sumB (gtB le b.p) L := by
      rw [sumB_perm _ (srt_perm (lt := ltz cmpB) L).symm]
      rw [rkC_eq, ← List.map_take, List.map_map]
      have := part_sum2 (S := srB L) (le := le) (ps := (psB (srB L) le).take k) ((psB_nodup _ _).sublist (List.take_sublist _ _)) (srB L).length (Nat.le_refl _)
      rw [List.take_length] at this
      refine Eq.trans this ?_
      unfold sumB
      congr 1
      refine List.map_congr_left fun c hc => ?_
      unfold gtB
      by_cases hcc : c.f = false ∧ le ≤ c.p
      · obtain ⟨ic, hic⟩ := List.mem_iff_getElem?.1 hc
        have hm : c.p ∈ psB (srB L) le := (psB_mem _ _ _).2 (prcT_of _ _ _ ic c hic (List.getElem?_eq_some_iff.1 hic).1 hcc.1 hcc.2)
        have := desc_take (psB_desc (srB L) le) hk hm
        by_cases hlt : b.p < c.p
        · rw [if_pos ⟨hcc.1, hcc.2, this.2 hlt⟩, if_pos ⟨hcc.1, hcc.2, hlt⟩]
        · rw [if_neg (fun q => hlt (this.1 q.2.2)), if_neg (fun q => hlt q.2.2)]
      · rw [if_neg (fun q => hcc ⟨q.1, q.2.1⟩), if_neg (fun q => hcc ⟨q.1, q.2.1⟩)]
    rw [hsum, h.lvB] at hend hlo
    unfold tB
    rw [h.lvB] at hbl ⊢
    have := hbl.t0
    omega
  have e2 : sumI (rkP (srB L) le b.p) = sumB (eqB le b.p) L := by
    rw [sumB_perm _ (srt_perm (lt := ltz cmpB) L).symm]
    have := part_sum2 (S := srB L) (le := le) (ps := [b.p]) (by simp) (srB L).length (Nat.le_refl _)
    rw [List.take_length] at this
    simp only [List.map_cons, List.map_nil, sumI, Int.add_zero] at this
    refine Eq.trans this ?_
    unfold sumB
    congr 1
    refine List.map_congr_left fun c hc => ?_
    unfold eqB
    simp only [List.mem_singleton]
  rw [e1, e2] at hs
  exact hs
theorem HdIn.got0 {am le sh : Int} {L : List Bid} (h : HdIn am le sh L) {b : Bid} (hb : b ∈ L) (hf : b.f = false) (hp : b.p < le) (un : Bool) : gvA (hdA am le sh un L) b.bd b.num = 0 := by
  obtain ⟨i, g, hi, h1, h2, h3⟩ := h.at hb
  have := h.low h1 hf hp
  rw [h2] at this; cases this
  rw [h3 un]; rfl
theorem HdIn.gotN {am le sh : Int} {L : List Bid} (h : HdIn am le sh L) {b : Bid} (hb : b ∈ L) (un : Bool) : 0 ≤ gvA (hdA am le sh un L) b.bd b.num := (fair_ok h hb un).n0
/-! a bid taken out, or with another price -/
theorem ask_comp {b : Bid} (hf : b.f = false) : askB b = 0 := by unfold askB; rw [hf]; rfl
theorem lv_cons {am sh : Int} {b : Bid} {Z : List Bid} (hf : b.f = false) : lvB am sh (b :: Z) = lvB am sh Z := by
  unfold lvB; rw [sumB_cons, ask_comp hf, Int.zero_add]
theorem sumB_le {f g : Bid → Int} : ∀ {L : List Bid}, (∀ x ∈ L, f x ≤ g x) → sumB f L ≤ sumB g L
  | [], _ => Int.le_refl _
  | x :: L, h => by
    rw [sumB_cons, sumB_cons]
    have := sumB_le (L := L) fun y hy => h y (by simp [hy])
    have := h x (by simp)
    omega
theorem sumB_add {f g : Bid → Int} : ∀ {L : List Bid}, sumB (fun x => f x + g x) L = sumB f L + sumB g L
  | [] => rfl
  | x :: L => by rw [sumB_cons, sumB_cons, sumB_cons, sumB_add]; omega
theorem lvB_perm (am sh : Int) {A B : List Bid} (p : A.Perm B) : lvB am sh A = lvB am sh B := by unfold lvB; rw [sumB_perm _ p]
theorem tB_perm (am le sh : Int) {A B : List Bid} (p : A.Perm B) (q : Int) : tB am le sh A q = tB am le sh B q := by unfold tB; rw [lvB_perm _ _ p, sumB_perm _ p]
/-- a better price never brings less -/
theorem more_price {am le sh : Int} {L U Z : List Bid} {b u : Bid} (hL : HdIn am le sh L) (hU : HdIn am le sh U) (pL : L.Perm (b :: Z)) (pU : U.Perm (u :: Z)) (hf : b.f = false) (e1 : u.bd = b.bd) (e2 : u.num = b.num) (e3 : u.a = b.a) (e4 : u.f = false) (hp : b.p ≤ u.p) (un : Bool) :
    gvA (hdA am le sh un L) b.bd b.num ≤ gvA (hdA am le sh un U) b.bd b.num := by
  have hbL : b ∈ L := pL.mem_iff.2 (by simp)
  have huU : u ∈ U := pU.mem_iff.2 (by simp)
  have hb := hL.ok b hbL
  by_cases hle : le ≤ b.p
  · rcases Int.lt_or_eq_of_le hp with hlt | heq
    · obtain ⟨g, hg, s⟩ := hL.got hbL hf hle un
      obtain ⟨h, hh, r⟩ := hU.got huU e4 (by omega) un
      rw [e1, e2] at hh
      rw [hg, hh]
      rw [e3] at r
      rw [tB_perm _ _ _ pL, sumB_perm _ pL] at s
      rw [tB_perm _ _ _ pU, sumB_perm _ pU] at r
      unfold tB at s r
      rw [lv_cons hf, sumB_cons, sumB_cons] at s
      rw [lv_cons e4, sumB_cons, sumB_cons] at r
      have g0 : gtB le b.p b = 0 := by unfold gtB; rw [if_neg (fun q => by have := q.2.2; omega)]
      have g1 : gtB le u.p u = 0 := by unfold gtB; rw [if_neg (fun q => by have := q.2.2; omega)]
      have g2 : eqB le u.p u = b.a / 1000 := by unfold eqB; rw [if_pos ⟨e4, by omega, rfl⟩, e3]
      rw [g0] at s
      rw [g1, g2] at r
      have hsum : sumB (gtB le u.p) Z + sumB (eqB le u.p) Z ≤ sumB (gtB le b.p) Z := by
        rw [← sumB_add]
        refine sumB_le fun x hx => ?_
        have hxa := (hL.ok x (pL.mem_iff.2 (by simp [hx]))).a0
        unfold gtB eqB
        by_cases hc : x.f = false ∧ le ≤ x.p
        · by_cases q1 : u.p < x.p
          · rw [if_pos ⟨hc.1, hc.2, q1⟩, if_neg (fun q => by have := q.2.2; omega), if_pos ⟨hc.1, hc.2, by omega⟩]; omega
          · rw [if_neg (fun q => q1 q.2.2)]
            by_cases q2 : x.p = u.p
            · rw [if_pos ⟨hc.1, hc.2, q2⟩, if_pos ⟨hc.1, hc.2, by omega⟩]; omega
            · rw [if_neg (fun q => q2 q.2.2)]; split <;> omega
        · rw [if_neg (fun q => hc ⟨q.1, q.2.1⟩), if_neg (fun q => hc ⟨q.1, q.2.1⟩), if_neg (fun q => hc ⟨q.1, q.2.1⟩)]; omega
      obtain ⟨s0, s1, s2, s3, -, -⟩ := s
      obtain ⟨r0, r1, r2, r3, -, r5⟩ := r
      have key : g ≤ h := by
        obtain ⟨E, hE⟩ : ∃ E, sumB (eqB le u.p) Z = E := ⟨_, rfl⟩
        rw [hE] at hsum r2 r5
        by_cases hfull : b.a / 1000 + E ≤ max 0 (lvB am sh Z - (0 + sumB (gtB le u.p) Z))
        · have := r2 hfull; omega
        · have := r5 (by omega); omega
      omega
    · have e : u = b := by
        obtain ⟨bd, num, p, a, f⟩ := b
        obtain ⟨bd', num', p', a', f'⟩ := u
        simp only at e1 e2 e3 e4 hf heq
        subst e1 e2 e3 e4 hf heq; rfl
      subst e
      rw [(hd_perm hL.k (pL.trans pU.symm) am le sh un).2.2]
      exact Int.le_refl _
  · rw [hL.got0 hbL hf (by omega) un]
    have := hU.gotN huU un
    rw [e1, e2] at this
    exact this
/-- without a bid no other competitive one gets less, but for a lot -/
theorem more_less {am le sh : Int} {L Z : List Bid} {b x : Bid} (hL : HdIn am le sh L) (hZ : HdIn am le sh Z) (pL : L.Perm (b :: Z)) (hf : b.f = false) (hx : x ∈ Z) (hxf : x.f = false) (un : Bool) :
    gvA (hdA am le sh un L) x.bd x.num - 1000 ≤ gvA (hdA am le sh un Z) x.bd x.num := by
  have hxL : x ∈ L := pL.mem_iff.2 (by simp [hx])
  have hbL : b ∈ L := pL.mem_iff.2 (by simp)
  have hba := (hL.ok b hbL).a0
  by_cases hle : le ≤ x.p
  · obtain ⟨g, hg, s⟩ := hL.got hxL hxf hle un
    obtain ⟨h, hh, r⟩ := hZ.got hx hxf hle un
    rw [hg, hh]
    rw [tB_perm _ _ _ pL, sumB_perm _ pL] at s
    unfold tB at s r
    rw [lv_cons hf, sumB_cons, sumB_cons] at s
    have q1 : 0 ≤ gtB le x.p b := by unfold gtB; split <;> omega
    have q2 : 0 ≤ eqB le x.p b := by unfold eqB; split <;> omega
    obtain ⟨T, hT⟩ : ∃ T, max 0 (lvB am sh Z - sumB (gtB le x.p) Z) = T := ⟨_, rfl⟩
    obtain ⟨T', hT'⟩ : ∃ T, max 0 (lvB am sh Z - (gtB le x.p b + sumB (gtB le x.p) Z)) = T := ⟨_, rfl⟩
    obtain ⟨E, hE⟩ : ∃ E, sumB (eqB le x.p) Z = E := ⟨_, rfl⟩
    obtain ⟨E', hE'⟩ : ∃ E', eqB le x.p b + E = E' := ⟨_, rfl⟩
    obtain ⟨v, hv⟩ : ∃ v, x.a / 1000 = v := ⟨_, rfl⟩
    rw [hT, hE, hv] at r
    rw [hT', hE, hE', hv] at s
    have hTT : T' ≤ T := by omega
    have hEE : E ≤ E' := by omega
    obtain ⟨s0, s1, s2, s3, s4, -⟩ := s
    obtain ⟨r0, r1, r2, r3, r4, -⟩ := r
    have hv0 : 0 ≤ v := by omega
    clear hT hT' hE hE' hv
    have key : g ≤ h + 1 := by
      rcases Int.lt_or_le T E with c | c
      · obtain ⟨m1, -⟩ := r4 c
        obtain ⟨-, m2⟩ := s4 (by omega)
        rcases Int.lt_or_le (h + 1) g with d | d
        · exfalso
          have n1 : (h + 1) * E ≤ (h + 1) * E' := Int.mul_le_mul_of_nonneg_left hEE (by omega)
          have n2 : (h + 2) * E' ≤ g * E' := Int.mul_le_mul_of_nonneg_right (by omega) (by omega)
          have n3 : T' * v ≤ T * v := Int.mul_le_mul_of_nonneg_right hTT hv0
          have n4 : (h + 2) * E' = (h + 1) * E' + E' := by rw [show h + 2 = (h + 1) + 1 by omega, Int.add_mul (h + 1), Int.one_mul]
          have n5 : (h + 1) * E = h * E + E := by rw [Int.add_mul, Int.one_mul]
          omega
        · exact d
      · have := r2 c; omega
    omega
  · rw [hL.got0 hxL hxf (by omega) un, hZ.got0 hx hxf (by omega) un]; omega
/-- the lists of the law -/
theorem set_perm {L : List Bid} {k : Nat} {b : Bid} (hk : L[k]? = some b) (u : Bid) : (L.set k u).Perm (u :: (L.take k ++ L.drop (k + 1))) ∧ L.Perm (b :: (L.take k ++ L.drop (k + 1))) := by
  have hl : k < L.length := (List.getElem?_eq_some_iff.1 hk).1
  constructor
  · rw [List.set_eq_take_append_cons_drop, if_pos hl]
    exact List.perm_middle
  · have e : L = L.take k ++ b :: L.drop (k + 1) := by
      have h1 := List.take_append_drop k L
      have h2 : L.drop k = b :: L.drop (k + 1) := drop_cons hk
      rw [h2] at h1; exact h1.symm
    exact (List.Perm.of_eq e).trans List.perm_middle
theorem HdIn.less {am le sh : Int} {L : List Bid} (h : HdIn am le sh L) (h12 : L.length ≤ 12) (k : Nat) : HdIn am le sh (L.take k ++ L.drop (k + 1)) := by
  have hs : (L.take k ++ L.drop (k + 1)).Sublist L := by
    have e := List.take_append_drop k L
    have : (L.take k ++ L.drop (k + 1)).Sublist (L.take k ++ L.drop k) := List.Sublist.append (List.Sublist.refl _) (by rw [← List.drop_drop (i := 1)]; exact List.drop_sublist _ _)
    rw [e] at this; exact this
  exact ⟨fun x hx => h.ok x (hs.subset hx), List.Pairwise.sublist hs h.k, Nat.le_trans hs.length_le h.n, h.o, Nat.le_trans (prcT_len _ _ _) (by rw [srB_len]; exact Nat.le_trans hs.length_le h12)⟩
theorem HdIn.upd {am le sh : Int} {L : List Bid} (h : HdIn am le sh L) (h12 : L.length ≤ 12) {k : Nat} {b : Bid} (hk : L[k]? = some b) {q : Int} (hf : b.f = false) (hq : 1 ≤ q ∧ q ≤ 200000) : HdIn am le sh (L.set k ⟨b.bd, b.num, q, b.a, false⟩) := by
  have hb := h.ok b (List.mem_of_getElem? hk)
  have hkl : k < L.length := (List.getElem?_eq_some_iff.1 hk).1
  refine ⟨fun x hx => ?_, ?_, by rw [List.length_set]; exact h.n, h.o, Nat.le_trans (prcT_len _ _ _) (by rw [srB_len, List.length_set]; exact h12)⟩
  · rcases List.mem_or_eq_of_mem_set hx with hx | rfl
    · exact h.ok x hx
    · exact ⟨hb.b0, hb.b1, hb.n0, hb.n1, hb.a0, hb.a1, hb.am, (fun e => by cases e), (fun _ => hq)⟩
  · have := h.k
    unfold KeysB at this ⊢
    rw [List.pairwise_iff_getElem] at this ⊢
    have key : ∀ i (hi : i < (L.set k ⟨b.bd, b.num, q, b.a, false⟩).length), ((L.set k ⟨b.bd, b.num, q, b.a, false⟩)[i]).bd = (L[i]'(by rw [List.length_set] at hi; exact hi)).bd ∧ ((L.set k ⟨b.bd, b.num, q, b.a, false⟩)[i]).num = (L[i]'(by rw [List.length_set] at hi; exact hi)).num := by
      intro i hi
      rw [List.getElem_set]
      split
      · rename_i e
        subst e
        have := (List.getElem?_eq_some_iff.1 hk).2
        rw [this]; exact ⟨rfl, rfl⟩
      · exact ⟨rfl, rfl⟩
    intro i j hi hj hij
    rw [(key i hi).1, (key i hi).2, (key j hj).1, (key j hj).2]
    exact this i j _ _ hij
end Go.Proofs.Ytenbbmmbpjjjpaa
