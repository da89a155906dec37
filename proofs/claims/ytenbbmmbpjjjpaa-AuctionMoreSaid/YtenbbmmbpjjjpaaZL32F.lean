/- Auction: what each bid got, and sums, plainly. -/
import Derived.Test.YtenbbmmbpjjjpaaZL32S
namespace Go.Proofs.Ytenbbmmbpjjjpaa
open Go.RowKit
set_option linter.unusedVariables false
set_option linter.unusedSimpArgs false
theorem lotT_at {S : List Bid} {i : Nat} {b : Bid} (h : S[i]? = some b) : lotT S (i : Int) = b.a / 1000 := by
  unfold lotT
  rw [List.getD_eq_getElem?_getD, show ((i : Int)).toNat = i by omega, h]; rfl
theorem isF_at {S : List Bid} {i : Nat} {b : Bid} (h : S[i]? = some b) : isF S i = b.f := by unfold isF; rw [h]
/-- what a rank is given -/
def svd (t : Int) (r : List Int) : List Int := if t < sumI r then partsL t r else r
theorem svd_len {t : Int} {r : List Int} (h0 : 0 ≤ t) (h1 : t ≤ 1000000) (hl : r.length ≤ 100) (hb : ∀ x ∈ r, 0 ≤ x ∧ x ≤ 1000000) : (svd t r).length = r.length := by
  unfold svd
  split
  · rename_i h; exact (parts_ok h0 h1 hl hb h).len
  · rfl
theorem svd_sum {t : Int} {r : List Int} (h0 : 0 ≤ t) (h1 : t ≤ 1000000) (hl : r.length ≤ 100) (hb : ∀ x ∈ r, 0 ≤ x ∧ x ≤ 1000000) : sumI (svd t r) = min t (sumI r) := by
  unfold svd
  split
  · rename_i h; rw [(parts_ok h0 h1 hl hb h).sum]; omega
  · omega
theorem svd_at {t : Int} {r : List Int} (h0 : 0 ≤ t) (h1 : t ≤ 1000000) (hl : r.length ≤ 100) (hb : ∀ x ∈ r, 0 ≤ x ∧ x ≤ 1000000) {j : Nat} {v : Int} (hv : r[j]? = some v) :
    ∃ x, (svd t r)[j]? = some x ∧ 0 ≤ x ∧ x ≤ v ∧ (sumI r ≤ t → x = v) ∧ x ≤ t ∧ (t < sumI r → t * v - sumI r < x * sumI r ∧ x * sumI r < t * v + sumI r) := by
  have hv0 := hb v (List.mem_of_getElem? hv)
  have hm : v ≤ sumI r := sumI_mem (fun x hx => (hb x hx).1) (List.mem_of_getElem? hv)
  unfold svd
  by_cases h : t < sumI r
  · rw [if_pos h]
    have hf := parts_ok h0 h1 hl hb h
    obtain ⟨x, hx, x0, x1⟩ := parts_le hf h0 h (fun w hw => (hb w hw).1) hv
    have hxt := (fair_bd hf h0 (by omega) hb x (List.mem_of_getElem? hx)).2
    refine ⟨x, hx, x0, x1, by omega, hxt, fun _ => ?_⟩
    obtain ⟨y, hy, y1, y2, y3, -⟩ := hf.get j v hv
    rw [hx] at hy; cases hy
    have hs : 0 < sumI r := by omega
    obtain ⟨s, hse⟩ : ∃ s, sumI r = s := ⟨_, rfl⟩
    rw [hse] at y1 y2 y3 hs ⊢
    have e := Int.mul_ediv_add_emod (t * v) s
    have e1 := Int.emod_nonneg (t * v) (show s ≠ 0 by omega)
    have e2 := Int.emod_lt_of_pos (t * v) hs
    obtain ⟨q, hq⟩ : ∃ q, t * v / s = q := ⟨_, rfl⟩
    rw [hq] at y1 y2 y3 e
    have m1 : q * s ≤ x * s := Int.mul_le_mul_of_nonneg_right y1 (by omega)
    have m2 : x * s ≤ (q + 1) * s := Int.mul_le_mul_of_nonneg_right y2 (by omega)
    rw [Int.add_mul, Int.one_mul] at m2
    rw [Int.mul_comm s q] at e
    refine ⟨by omega, ?_⟩
    rcases Int.lt_or_le 0 (t * v % s) with hz | hz
    · omega
    · have := y3 (by omega)
      subst this; omega
  · rw [if_neg h]
    exact ⟨v, hv, hv0.1, Int.le_refl _, fun _ => rfl, by omega, fun h2 => absurd h2 h⟩
/-- what is left for the competitive ones, and their ranks -/
def lvC (am sh : Int) (S : List Bid) : Int := am / 1000 - frN am sh S
def rkC (S : List Bid) (le : Int) : List (List Int) := rkL S (compL S le)
def rkP (S : List Bid) (le p : Int) : List Int := (grpT S le p S.length).map (lotT S)
def rkF (S : List Bid) : List Int := (frT S S.length).map (lotT S)
theorem rkC_eq (S : List Bid) (le : Int) : rkC S le = (psB S le).map (rkP S le) := by
  unfold rkC rkL rkP; rw [compL_eq, List.map_map]; rfl
theorem HdIn.rk {am le sh : Int} {L : List Bid} (h : HdIn am le sh L) : RanksOk (rkC (srB L) le) := rkL_ok h.a (comp_ok h.S60 h.p)
theorem HdIn.rf {am le sh : Int} {L : List Bid} (h : HdIn am le sh L) : RanksOk [rkF (srB L)] := rkL_ok h.a (free_ok h.S60)
theorem HdIn.lv {am le sh : Int} {L : List Bid} (h : HdIn am le sh L) : 0 ≤ lvC am sh (srB L) ∧ lvC am sh (srB L) ≤ 1000000 := by
  obtain ⟨f1, f2, f3, f4, f5⟩ := h.fr
  unfold lvC; omega
theorem frG_eq (am sh : Int) (S : List Bid) : frG am sh S = gvT (List.replicate S.length 0) [frT S S.length] [svd (am / 1000 * sh / 100) (rkF S)] 1 := rfl
theorem frN_eq (am sh : Int) (S : List Bid) : frN am sh S = sumI (svd (am / 1000 * sh / 100) (rkF S)) := by
  show gnT [svd (am / 1000 * sh / 100) (rkF S)] 1 = _
  simp [gnT]
theorem hdG_eq (am le sh : Int) (S : List Bid) : hdG am le sh S = gvT (frG am sh S) (compL S le) (srvL (lvC am sh S) (rkC S le)) (compL S le).length := rfl
theorem frG_len (am sh : Int) (S : List Bid) : (frG am sh S).length = S.length := by rw [frG_eq, gvT_len, List.length_replicate]
theorem frG_other {am sh : Int} {S : List Bid} {i : Nat} {b : Bid} (hb : S[i]? = some b) (hf : b.f = false) : (frG am sh S)[i]? = some 0 := by
  have hi : i < S.length := (List.getElem?_eq_some_iff.1 hb).1
  rw [frG_eq, gvT_far]
  · rw [List.getElem?_replicate, if_pos hi]
  · intro k g hk hg x hx
    obtain rfl : k = 0 := by omega
    simp only [List.getElem?_cons_zero, Option.some.injEq] at hg
    subst hg
    have := (frT_iff S _ x).1 hx
    intro e
    rw [e, isF_at hb, hf] at this
    cases this.2.2
/-- a free bid's part -/
theorem HdIn.free {am le sh : Int} {L : List Bid} (h : HdIn am le sh L) {i : Nat} {b : Bid} (hb : (srB L)[i]? = some b) (hf : b.f = true) :
    ∃ j : Nat, (frT (srB L) (srB L).length)[j]? = some (i : Int) ∧ (rkF (srB L))[j]? = some (b.a / 1000) ∧ (hdG am le sh (srB L))[i]? = some ((svd (am / 1000 * sh / 100) (rkF (srB L))).getD j 0) := by
  have hi : i < (srB L).length := (List.getElem?_eq_some_iff.1 hb).1
  have hm : (i : Int) ∈ frT (srB L) (srB L).length := (frT_iff _ _ _).2 ⟨by omega, by omega, by rw [show ((i : Int)).toNat = i by omega, isF_at hb]; exact hf⟩
  obtain ⟨j, hj⟩ := List.mem_iff_getElem?.1 hm
  refine ⟨j, hj, by unfold rkF; rw [List.getElem?_map, hj, Option.map_some, lotT_at hb], ?_⟩
  rw [hdG_eq, gvT_far]
  · have := gvT_at (G := List.replicate (srB L).length 0) (VV := [svd (am / 1000 * sh / 100) (rkF (srB L))]) (by rw [List.length_replicate]; exact free_grp _) (k := 0) rfl hj 1 (by omega)
    rw [show ((i : Int)).toNat = i by omega] at this
    rw [frG_eq, this]; rfl
  · intro k g hk hg x hx e
    rw [compL_eq, List.getElem?_map, Option.map_eq_some_iff] at hg
    obtain ⟨p, hp, rfl⟩ := hg
    have := (grpT_iff _ le p _ x).1 hx
    rw [e, isC_iff hb, hf] at this
    cases this.2.2.1
/-- a bid below the least price gets nothing -/
theorem HdIn.low {am le sh : Int} {L : List Bid} (h : HdIn am le sh L) {i : Nat} {b : Bid} (hb : (srB L)[i]? = some b) (hf : b.f = false) (hp : b.p < le) : (hdG am le sh (srB L))[i]? = some 0 := by
  rw [hdG_eq, gvT_far]
  · exact frG_other hb hf
  · intro k g hk hg x hx e
    rw [compL_eq, List.getElem?_map, Option.map_eq_some_iff] at hg
    obtain ⟨p, hpp, rfl⟩ := hg
    have := (grpT_iff _ le p _ x).1 hx
    rw [e, isC_iff hb] at this
    omega
/-- a competitive bid's part -/
theorem HdIn.comp {am le sh : Int} {L : List Bid} (h : HdIn am le sh L) {i : Nat} {b : Bid} (hb : (srB L)[i]? = some b) (hf : b.f = false) (hp : le ≤ b.p) :
    ∃ k j : Nat, (psB (srB L) le)[k]? = some b.p ∧ (grpT (srB L) le b.p (srB L).length)[j]? = some (i : Int) ∧ (rkP (srB L) le b.p)[j]? = some (b.a / 1000) ∧ (rkC (srB L) le)[k]? = some (rkP (srB L) le b.p) ∧
      (hdG am le sh (srB L))[i]? = some ((svd (lfT (lvC am sh (srB L)) (rkC (srB L) le) k) (rkP (srB L) le b.p)).getD j 0) := by
  have hi : i < (srB L).length := (List.getElem?_eq_some_iff.1 hb).1
  have hpm : b.p ∈ psB (srB L) le := (psB_mem _ _ _).2 (prcT_of _ _ _ i b hb hi hf hp)
  obtain ⟨k, hk⟩ := List.mem_iff_getElem?.1 hpm
  have hm : (i : Int) ∈ grpT (srB L) le b.p (srB L).length := (grpT_iff _ _ _ _ _).2 ⟨by omega, by omega, by rw [show ((i : Int)).toNat = i by omega, isC_iff hb]; exact ⟨hf, hp, rfl⟩⟩
  obtain ⟨j, hj⟩ := List.mem_iff_getElem?.1 hm
  have hrk : (rkC (srB L) le)[k]? = some (rkP (srB L) le b.p) := by rw [rkC_eq, List.getElem?_map, hk]; rfl
  have hgk : (compL (srB L) le)[k]? = some (grpT (srB L) le b.p (srB L).length) := by rw [compL_eq, List.getElem?_map, hk]; rfl
  refine ⟨k, j, hk, hj, by unfold rkP; rw [List.getElem?_map, hj, Option.map_some, lotT_at hb], hrk, ?_⟩
  have := gvT_at (G := Go.Proofs.Ytenbbmmbpjjjpaa.frG am sh (srB L)) (VV := srvL (lvC am sh (srB L)) (rkC (srB L) le)) (by rw [frG_len]; exact compL_grp _ _) hgk hj _ (List.getElem?_eq_some_iff.1 hgk).1
  rw [show ((i : Int)).toNat = i by omega] at this
  rw [hdG_eq, this, List.getD_eq_getElem?_getD (l := srvL _ _), srvL_at _ _ k _ hrk]; rfl
/-- the numbers of a rank -/
structure RkOk (t : Int) (r : List Int) : Prop where
  t0 : 0 ≤ t
  t1 : t ≤ 1000000
  l : r.length ≤ 100
  b : ∀ x ∈ r, 0 ≤ x ∧ x ≤ 1000000
theorem HdIn.rkOk {am le sh : Int} {L : List Bid} (h : HdIn am le sh L) {k : Nat} {r : List Int} (hr : (rkC (srB L) le)[k]? = some r) : RkOk (lfT (lvC am sh (srB L)) (rkC (srB L) le) k) r := by
  have hm := List.mem_of_getElem? hr
  obtain ⟨v0, v1⟩ := h.lv
  have := lfT_bd (RR := rkC (srB L) le) (fun r hr => (sumI_bd (h.rk.k r hr) (h.rk.b r hr)).1) v0 k
  exact ⟨this.1, by omega, h.rk.k r hm, h.rk.b r hm⟩
theorem HdIn.rfOk {am le sh : Int} {L : List Bid} (h : HdIn am le sh L) : RkOk (am / 1000 * sh / 100) (rkF (srB L)) := by
  obtain ⟨f1, f2, f3, f4, f5⟩ := h.fr
  exact ⟨f4, by omega, h.rf.k _ (by simp), h.rf.b _ (by simp)⟩
theorem getD_some {L : List Int} {j : Nat} {x : Int} (h : L[j]? = some x) : L.getD j 0 = x := by rw [List.getD_eq_getElem?_getD, h]; rfl
/-- nobody gets more than it asks for -/
theorem HdIn.le {am le sh : Int} {L : List Bid} (h : HdIn am le sh L) {i : Nat} {b : Bid} {g : Int} (hb : (srB L)[i]? = some b) (hg : (hdG am le sh (srB L))[i]? = some g) : 0 ≤ g ∧ g ≤ b.a / 1000 := by
  have hba := h.a b (List.mem_of_getElem? hb)
  cases hf : b.f with
  | true =>
    obtain ⟨j, -, hv, hgg⟩ := h.free hb hf
    have o := h.rfOk
    obtain ⟨x, hx, x0, x1, -⟩ := svd_at o.t0 o.t1 o.l o.b hv
    rw [hg, getD_some hx] at hgg; cases hgg
    exact ⟨x0, x1⟩
  | false =>
    by_cases hp : b.p < le
    · have := h.low hb hf hp
      rw [hg] at this; cases this
      omega
    · obtain ⟨k, j, hk, hj, hv, hr, hgg⟩ := h.comp hb hf (by omega)
      have o := h.rkOk hr
      obtain ⟨x, hx, x0, x1, -⟩ := svd_at o.t0 o.t1 o.l o.b hv
      rw [hg, getD_some hx] at hgg; cases hgg
      exact ⟨x0, x1⟩
theorem desc_idx {P : List Int} (h : P.Pairwise (fun a b => b < a)) {k l : Nat} {a b : Int} (hk : P[k]? = some a) (hl : P[l]? = some b) (hab : b < a) : k < l := by
  rw [List.pairwise_iff_getElem] at h
  obtain ⟨h1, rfl⟩ := List.getElem?_eq_some_iff.1 hk
  obtain ⟨h2, rfl⟩ := List.getElem?_eq_some_iff.1 hl
  rcases Nat.lt_trichotomy k l with g | g | g
  · exact g
  · subst g; omega
  · have := h l k h2 h1 g; omega
/-- a dearer one is served in full if a cheaper one gets something -/
theorem HdIn.full {am le sh : Int} {L : List Bid} (h : HdIn am le sh L) {i i' : Nat} {b b' : Bid} {g g' : Int} (hb : (srB L)[i]? = some b) (hg : (hdG am le sh (srB L))[i]? = some g) (hf : b.f = false)
    (hb' : (srB L)[i']? = some b') (hg' : (hdG am le sh (srB L))[i']? = some g') (hf' : b'.f = false) (h0 : 0 < g') (hlt : b'.p < b.p) : g = b.a / 1000 := by
  have hp' : le ≤ b'.p := by
    rcases Int.lt_or_le b'.p le with q | q
    · have := h.low hb' hf' q
      rw [hg'] at this; cases this; omega
    · exact q
  obtain ⟨k, j, hk, hj, hv, hr, hgg⟩ := h.comp hb hf (by omega)
  obtain ⟨k', j', hk', hj', hv', hr', hgg'⟩ := h.comp hb' hf' hp'
  have hkk := desc_idx (psB_desc _ _) hk hk' hlt
  have o := h.rkOk hr
  have o' := h.rkOk hr'
  obtain ⟨x, hx, x0, x1, x2, x3, -⟩ := svd_at o.t0 o.t1 o.l o.b hv
  obtain ⟨y, hy, y0, y1, y2, y3, -⟩ := svd_at o'.t0 o'.t1 o'.l o'.b hv'
  rw [hg, getD_some hx] at hgg; cases hgg
  rw [hg', getD_some hy] at hgg'; cases hgg'
  have hpos : 0 < lfT (lvC am sh (srB L)) (rkC (srB L) le) k' := by omega
  have ha := lfT_anti (RR := rkC (srB L) le) (left := lvC am sh (srB L)) (fun r hr => (sumI_bd (h.rk.k r hr) (h.rk.b r hr)).1) h.lv.1 (show k + 1 ≤ k' by omega)
  rw [lfT, List.getD_eq_getElem?_getD, hr] at ha
  simp only [Option.getD_some] at ha
  refine x2 ?_
  omega
/-! sums over bids -/
def acT (f : Bid → Int) (L : List Bid) : Nat → Int
  | 0 => 0
  | k + 1 => match L[k]? with
    | some b => acT f L k + f b
    | none => acT f L k
theorem acT_succ {f : Bid → Int} {L : List Bid} {k : Nat} {b : Bid} (h : L[k]? = some b) : acT f L (k + 1) = acT f L k + f b := by rw [acT, h]
theorem acT_take (f : Bid → Int) (L : List Bid) : ∀ k, acT f L k = sumI ((L.take k).map f)
  | 0 => by simp [acT, sumI]
  | k + 1 => by
    have ih := acT_take f L k
    cases h : L[k]? with
    | none =>
      have hl : L.length ≤ k := by simpa using h
      rw [acT, h]; simp only
      rw [ih, List.take_of_length_le hl, List.take_of_length_le (show L.length ≤ k + 1 by omega)]
    | some b => rw [acT_succ h, ih, take_snocZ h, List.map_append, sumI_append]; simp [sumI]
theorem acT_bd {f : Bid → Int} {L : List Bid} {M : Int} (hM : 0 ≤ M) (h : ∀ x ∈ L, 0 ≤ f x ∧ f x ≤ M) : ∀ k : Nat, 0 ≤ acT f L k ∧ acT f L k ≤ k * M
  | 0 => by simp [acT]
  | k + 1 => by
    have ih := acT_bd hM h k
    have e : ((k + 1 : Nat) : Int) * M = k * M + M := by rw [show ((k + 1 : Nat) : Int) = (k : Int) + 1 by omega, Int.add_mul, Int.one_mul]
    cases hb : L[k]? with
    | none => rw [acT, hb]; simp only; omega
    | some b => rw [acT_succ hb]; have := h b (List.mem_of_getElem? hb); omega
theorem acT_all (f : Bid → Int) (L : List Bid) : acT f L L.length = sumI (L.map f) := by rw [acT_take, List.take_length]
theorem acT_srB (f : Bid → Int) (L : List Bid) : acT f L L.length = sumI ((srB L).map f) := by
  rw [acT_all]; exact sumI_perm ((srt_perm L).symm.map f)
theorem sumI_mulc (c : Int) : ∀ L : List Int, sumI (L.map fun x => x * c) = sumI L * c
  | [] => by simp [sumI]
  | x :: L => by simp only [List.map_cons, sumI, sumI_mulc c L, Int.add_mul]
theorem sdT_sum {G : List Int} (hG : ∀ g ∈ G, 0 ≤ g) : ∀ k, sdT G k = sumI (G.take k) * 1000
  | 0 => by simp [sdT, sumI]
  | k + 1 => by
    have ih := sdT_sum hG k
    cases h : G[k]? with
    | none =>
      have hl : G.length ≤ k := by simpa using h
      rw [sdT, h]; simp only
      rw [ih, List.take_of_length_le hl, List.take_of_length_le (show G.length ≤ k + 1 by omega)]
    | some g =>
      have := hG g (List.mem_of_getElem? h)
      rw [sumI_snoc h, Int.add_mul]
      by_cases h0 : 0 < g
      · rw [sdT_yes h h0, ih]
      · rw [sdT_no h h0, ih]; omega
theorem HdIn.sold {am le sh : Int} {L : List Bid} (h : HdIn am le sh L) : hdS am le sh L = sumI (hdG am le sh (srB L)) * 1000 := by
  unfold hdS
  rw [sdT_sum (fun g hg => (h.g g hg).1), ← hdG_len am le sh (srB L), List.take_length]
/-- what all bids got is what was sold -/
theorem HdIn.given {am le sh : Int} {L : List Bid} (h : HdIn am le sh L) (un : Bool) : acT (fun b => gvA (hdA am le sh un L) b.bd b.num) L L.length = hdS am le sh L := by
  rw [acT_srB, h.sold, ← sumI_mulc]
  congr 1
  refine List.ext_getElem? fun i => ?_
  rw [List.getElem?_map, List.getElem?_map]
  cases hb : (srB L)[i]? with
  | none =>
    have : (srB L).length ≤ i := by simpa using hb
    rw [List.getElem?_eq_none (by rw [hdG_len]; exact this)]; rfl
  | some b =>
    have hi : i < (srB L).length := (List.getElem?_eq_some_iff.1 hb).1
    have hg : (hdG am le sh (srB L))[i]? = some _ := List.getElem?_eq_getElem (by rw [hdG_len]; exact hi)
    rw [hg]
    simp only [Option.map_some]
    rw [show gvA (hdA am le sh un L) b.bd b.num = _ from gvA_awT h.kS (fun g hg => (h.g g hg).1) _ i b _ hb hg hi]
/-- the sum of all that is given -/
theorem HdIn.total {am le sh : Int} {L : List Bid} (h : HdIn am le sh L) : sumI (hdG am le sh (srB L)) = am / 1000 - lfT (lvC am sh (srB L)) (rkC (srB L) le) (rkC (srB L) le).length := by
  have hk := h.rk
  have hlen : (compL (srB L) le).length = (rkC (srB L) le).length := by unfold rkC rkL; simp
  have hv := srvL_ok _ (lvC am sh (srB L)) hk h.lv.1 h.lv.2
  have hfr : sumI (Go.Proofs.Ytenbbmmbpjjjpaa.frG am sh (srB L)) = frN am sh (srB L) := by
    have o := h.rfOk
    have e := sumI_gvT (G := List.replicate (srB L).length 0) (GG := [frT (srB L) (srB L).length]) (VV := [svd (am / 1000 * sh / 100) (rkF (srB L))]) (by rw [List.length_replicate]; exact free_grp _)
      (fun g hg x hx => by
        simp only [List.mem_singleton] at hg; subst hg
        have := (frT_iff _ _ x).1 hx
        rw [List.getElem?_replicate, if_pos (by omega)]) rfl
      (fun k g v hg hv => by
        cases k with
        | zero =>
          simp only [List.getElem?_cons_zero, Option.some.injEq] at hg hv
          subst hg hv
          rw [svd_len o.t0 o.t1 o.l o.b]; unfold rkF; rw [List.length_map]
        | succ k => simp at hg) 1 (by simp)
    have hz : ∀ n : Nat, sumI (List.replicate n 0) = 0 := by
      intro n
      induction n with
      | zero => rfl
      | succ n ih => rw [List.replicate_succ, sumI, ih]; rfl
    rw [frG_eq, e, hz, Int.zero_add, frN_eq]; simp [gnT]
  have e := sumI_gvT (G := Go.Proofs.Ytenbbmmbpjjjpaa.frG am sh (srB L)) (GG := compL (srB L) le) (VV := srvL (lvC am sh (srB L)) (rkC (srB L) le)) (by rw [frG_len]; exact compL_grp _ _)
    (fun g hg x hx => by
      rw [compL_eq] at hg
      obtain ⟨p, hp, rfl⟩ := List.mem_map.1 hg
      have q := (grpT_iff _ le p _ x).1 hx
      have hb : (srB L)[x.toNat]? = some ((srB L)[x.toNat]'(by omega)) := List.getElem?_eq_getElem (by omega)
      exact frG_other hb ((isC_iff hb).1 q.2.2).1)
    (by rw [hlen]; exact hv.1)
    (fun k g v hg hvk => by
      have hr : (rkC (srB L) le)[k]? = some (g.map (lotT (srB L))) := by unfold rkC rkL; rw [List.getElem?_map, hg]; rfl
      rw [(hv.2 k _ v hr hvk).1, List.length_map]) (compL (srB L) le).length (Nat.le_refl _)
  have gl := gn_lf hk h.lv.1 h.lv.2 (rkC (srB L) le).length
  rw [hdG_eq, e, hfr, hlen]
  unfold lvC at gl ⊢
  omega
theorem HdIn.lf_end {am le sh : Int} {L : List Bid} (h : HdIn am le sh L) : 0 ≤ lfT (lvC am sh (srB L)) (rkC (srB L) le) (rkC (srB L) le).length :=
  (lfT_bd (RR := rkC (srB L) le) (fun r hr => (sumI_bd (h.rk.k r hr) (h.rk.b r hr)).1) h.lv.1 _).1
/-- never more is sold than is offered -/
theorem HdIn.sold_le {am le sh : Int} {L : List Bid} (h : HdIn am le sh L) : 0 ≤ hdS am le sh L ∧ hdS am le sh L ≤ am := by
  have h1 := h.total
  have h2 := h.lf_end
  have h3 := sumI_nonneg (L := hdG am le sh (srB L)) fun x hx => (h.g x hx).1
  rw [h.sold]
  have := h.o.a0
  omega
/-! the ranks together -/
theorem sum_ind {q v : Int} : ∀ {ps : List Int}, ps.Nodup → q ∈ ps → sumI (ps.map fun p => if p = q then v else 0) = v
  | [], _, h => by simp at h
  | p :: ps, hn, h => by
    rw [List.nodup_cons] at hn
    simp only [List.map_cons, sumI]
    have hz : ∀ {ps : List Int}, q ∉ ps → sumI (ps.map fun p => if p = q then v else 0) = 0 := by
      intro ps
      induction ps with
      | nil => intro _; rfl
      | cons p ps ih =>
        intro h
        simp only [List.mem_cons, not_or] at h
        simp only [List.map_cons, sumI]
        rw [if_neg (fun e => h.1 e.symm), ih h.2]; rfl
    by_cases e : p = q
    · subst e
      rw [if_pos rfl, hz hn.1]; omega
    · rw [if_neg e]
      have := sum_ind (v := v) hn.2 (by rcases List.mem_cons.1 h with h | h; (exact absurd h.symm e); (exact h))
      omega
theorem sum_zero : ∀ ps : List Int, sumI (ps.map fun _ => (0 : Int)) = 0
  | [] => rfl
  | p :: ps => by rw [List.map_cons, sumI, sum_zero ps]; rfl
theorem sumI_add2 (f g : Int → Int) : ∀ L : List Int, sumI (L.map fun x => f x + g x) = sumI (L.map f) + sumI (L.map g)
  | [] => rfl
  | x :: L => by simp only [List.map_cons, sumI, sumI_add2 f g L]; omega
def glB (le : Int) (b : Bid) : Int := if b.f = false ∧ le ≤ b.p then b.a / 1000 else 0
theorem part_sum {S : List Bid} {le : Int} {ps : List Int} (hn : ps.Nodup) : ∀ k, k ≤ S.length → (∀ (i : Nat) (b : Bid), i < k → S[i]? = some b → b.f = false → le ≤ b.p → b.p ∈ ps) →
    sumI (ps.map fun p => sumI ((grpT S le p k).map (lotT S))) = sumI ((S.take k).map (glB le))
  | 0, _, _ => by
    simp only [grpT, List.take_zero, List.map_nil, sumI]
    exact sum_zero ps
  | k + 1, hk, h => by
    have ih := part_sum hn k (by omega) fun i b hi => h i b (by omega)
    obtain ⟨b, hb⟩ : ∃ b, S[k]? = some b := ⟨_, List.getElem?_eq_getElem (by omega)⟩
    rw [take_snocZ hb, List.map_append, sumI_append, ← ih]
    have e : (fun p => sumI ((grpT S le p (k + 1)).map (lotT S))) = fun p => sumI ((grpT S le p k).map (lotT S)) + (if p = b.p then glB le b else 0) := by
      funext p
      rw [grpT]
      by_cases hc : isC S le p k = true
      · rw [if_pos hc, List.map_append, sumI_append]
        have := (isC_iff hb).1 hc
        rw [if_pos this.2.2.symm]
        simp only [List.map_cons, List.map_nil, sumI, lotT_at hb]
        unfold glB
        rw [if_pos ⟨this.1, this.2.1⟩]; omega
      · rw [if_neg hc]
        by_cases hp : p = b.p
        · rw [if_pos hp]
          unfold glB
          rw [if_neg (fun q => hc ((isC_iff hb).2 ⟨q.1, q.2, hp.symm⟩))]; omega
        · rw [if_neg hp]; omega
    rw [e, sumI_add2]
    simp only [List.map_cons, List.map_nil, sumI]
    by_cases hc : b.f = false ∧ le ≤ b.p
    · rw [sum_ind hn (h k b (by omega) hb hc.1 hc.2)]; omega
    · have hz : glB le b = 0 := by unfold glB; rw [if_neg hc]
      rw [hz]
      have : sumI (ps.map fun p => if p = b.p then (0 : Int) else 0) = 0 := by
        simp only [ite_self]; exact sum_zero ps
      rw [this]; omega
theorem rkC_sum (S : List Bid) (le : Int) : sumI ((rkC S le).map sumI) = sumI (S.map (glB le)) := by
  rw [rkC_eq, List.map_map]
  have := part_sum (S := S) (le := le) (psB_nodup S le) S.length (Nat.le_refl _) fun i b hi hb hf hp => (psB_mem _ _ _).2 (prcT_of _ _ _ i b hb hi hf hp)
  rw [List.take_length] at this
  exact this
def gdB (le : Int) (b : Bid) : Int := if b.f = false ∧ le ≤ b.p then b.a else 0
theorem HdIn.good {am le sh : Int} {L : List Bid} (h : HdIn am le sh L) : acT (gdB le) L L.length = sumI ((rkC (srB L) le).map sumI) * 1000 := by
  rw [acT_srB, rkC_sum, ← sumI_mulc, List.map_map]
  congr 1
  refine List.map_congr_left fun b hb => ?_
  have := (h.ok b ((srt_mem _ _).1 hb)).am
  simp only [Function.comp, gdB, glB]
  split <;> omega
/-- all is sold if there is enough that competes -/
theorem HdIn.all_sold {am le sh : Int} {L : List Bid} (h : HdIn am le sh L) : acT (gdB le) L L.length < am ∨ hdS am le sh L = am := by
  have hm := h.o.m
  have h1 := h.total
  have h2 := h.lf_end
  have h3 := lfT_end (RR := rkC (srB L) le) (left := lvC am sh (srB L)) (fun r hr => (sumI_bd (h.rk.k r hr) (h.rk.b r hr)).1) (rkC (srB L) le).length
  rw [List.take_length] at h3
  have hg := h.good
  have hs := h.sold
  obtain ⟨f1, -⟩ := h.fr
  have h4 : lvC am sh (srB L) ≤ am / 1000 := by unfold lvC; omega
  rcases h3 with h3 | h3
  · right; omega
  · by_cases hc : am / 1000 ≤ sumI ((rkC (srB L) le).map sumI)
    · right; omega
    · left; omega
/-- what the law AuctionFair says of a bid -/
structure FrOk (C le n : Int) (b : Bid) : Prop where
  asks : n ≤ b.a
  m : n % 1000 = 0
  n0 : 0 ≤ n
  low : b.f = false → b.p < le → n = 0
  up : b.f = false → le ≤ b.p → 0 < C → C < b.p → n = b.a
  dn : b.f = false → le ≤ b.p → 0 < C → b.p < C → n = 0
theorem fair_ok {am le sh : Int} {L : List Bid} (h : HdIn am le sh L) {b : Bid} (hb : b ∈ L) (un : Bool) : FrOk (hdC am le sh L) le (gvA (hdA am le sh un L) b.bd b.num) b := by
  obtain ⟨i, g, hi, h1, h2, h3⟩ := h.at hb
  rw [h3 un]
  have hp : ∀ x ∈ srB L, x.f = false → 1 ≤ x.p := fun x hx hf => ((h.ok x ((srt_mem _ _).1 hx)).pc hf).1
  obtain ⟨g0, g1⟩ := h.le h1 h2
  have ham := (h.ok b hb).am
  refine ⟨by omega, by omega, by omega, fun hf hl => ?_, fun hf hl hC hlt => ?_, fun hf hl hC hlt => ?_⟩
  · have := h.low h1 hf hl
    rw [h2] at this; cases this; rfl
  · obtain ⟨j, c, d, hj, j1, j2, hcf, hd, he⟩ := cutT_one (S := srB L) (G := hdG am le sh (srB L)) (srB L).length (show hdC am le sh L ≠ 0 by omega)
    have := h.full h1 h2 hf j1 j2 hcf hd (by rw [he]; exact hlt)
    omega
  · rcases Int.lt_or_eq_of_le g0 with hg | hg
    · have := (cutT_le hp (srB L).length i b g hi h1 h2 hf hg).2
      exact absurd (show hdC am le sh L ≤ b.p from this) (by omega)
    · omega
end Go.Proofs.Ytenbbmmbpjjjpaa
