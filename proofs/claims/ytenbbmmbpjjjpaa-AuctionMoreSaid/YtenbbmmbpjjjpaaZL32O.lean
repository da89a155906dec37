/- Auction: shares, orders and yields, plainly. -/
import Derived.Test.YtenbbmmbpjjjpaaZL32F
namespace Go.Proofs.Ytenbbmmbpjjjpaa
open Go.RowKit
set_option linter.unusedVariables false
set_option linter.unusedSimpArgs false
/-! the free ones -/
theorem fr_sum {S : List Bid} {F : Int → Int} {f : Bid → Int} (hF : ∀ (i : Nat) (b : Bid), S[i]? = some b → b.f = true → F i = f b) : ∀ k, k ≤ S.length → sumI ((frT S k).map F) = sumI ((S.take k).map fun b => if b.f = true then f b else 0)
  | 0, _ => by simp [frT, sumI]
  | k + 1, hk => by
    have ih := fr_sum hF k (by omega)
    obtain ⟨b, hb⟩ : ∃ b, S[k]? = some b := ⟨_, List.getElem?_eq_getElem (by omega)⟩
    rw [take_snocZ hb, List.map_append, sumI_append, ← ih]
    cases hf : b.f with
    | true =>
      rw [frT_yes hb hf, List.map_append, sumI_append]
      simp only [List.map_cons, List.map_nil, sumI, hf, if_true]
      rw [hF k b hb hf]
    | false =>
      rw [frT_no hb hf]
      simp [sumI, hf]
def askB (b : Bid) : Int := if b.f = true then b.a / 1000 else 0
def givB (A : List Awd) (b : Bid) : Int := if b.f = true then gvA A b.bd b.num / 1000 else 0
theorem HdIn.asked {am le sh : Int} {L : List Bid} (h : HdIn am le sh L) : acT askB L L.length = sumI (rkF (srB L)) := by
  rw [acT_srB]
  unfold rkF
  rw [fr_sum (f := fun b => b.a / 1000) (fun i b hb hf => lotT_at hb) _ (Nat.le_refl _), List.take_length]
  rfl
theorem HdIn.givF {am le sh : Int} {L : List Bid} (h : HdIn am le sh L) (un : Bool) : acT (givB (hdA am le sh un L)) L L.length = min (am / 1000 * sh / 100) (sumI (rkF (srB L))) := by
  have o := h.rfOk
  rw [← svd_sum o.t0 o.t1 o.l o.b, acT_srB]
  have e := fr_sum (S := srB L) (F := fun x => (hdG am le sh (srB L)).getD x.toNat 0) (f := fun b => gvA (hdA am le sh un L) b.bd b.num / 1000) (fun i b hb hf => by
    have hi : i < (srB L).length := (List.getElem?_eq_some_iff.1 hb).1
    have hg : (hdG am le sh (srB L))[i]? = some _ := List.getElem?_eq_getElem (by rw [hdG_len]; exact hi)
    rw [show gvA (hdA am le sh un L) b.bd b.num = _ from gvA_awT h.kS (fun g hg => (h.g g hg).1) _ i b _ hb hg hi]
    simp only [show ((i : Int)).toNat = i by omega]
    rw [getD_some hg]; omega) (srB L).length (Nat.le_refl _)
  rw [List.take_length] at e
  refine Eq.trans (show _ = _ from e.symm) ?_
  congr 1
  refine List.ext_getElem? fun j => ?_
  have hlen : (svd (am / 1000 * sh / 100) (rkF (srB L))).length = (frT (srB L) (srB L).length).length := by
    rw [svd_len o.t0 o.t1 o.l o.b]; unfold rkF; rw [List.length_map]
  rw [List.getElem?_map]
  cases hj : (frT (srB L) (srB L).length)[j]? with
  | none =>
    have : (frT (srB L) (srB L).length).length ≤ j := by simpa using hj
    rw [List.getElem?_eq_none (by omega)]; rfl
  | some x =>
    obtain ⟨hjl, hjx⟩ := List.getElem?_eq_some_iff.1 hj
    obtain ⟨x0, x1, x2⟩ := (frT_iff _ _ x).1 (List.mem_of_getElem? hj)
    have hb : (srB L)[x.toNat]? = some ((srB L)[x.toNat]'(by omega)) := List.getElem?_eq_getElem (by omega)
    obtain ⟨j', hj', -, hg⟩ := h.free hb (by rw [← isF_at hb]; exact x2)
    obtain ⟨hjl', hjx'⟩ := List.getElem?_eq_some_iff.1 hj'
    have : j' = j := nodup_inj (frT_nodup (srB L) (srB L).length) hjl' hjl (by rw [hjx', hjx]; omega)
    subst this
    rw [Option.map_some, getD_some hg, List.getD_eq_getElem?_getD, List.getElem?_eq_getElem (by omega)]
    rfl
/-- what the law AuctionShares says of a bid -/
theorem share_ok {am le sh : Int} {L : List Bid} (h : HdIn am le sh L) {b : Bid} (hb : b ∈ L) (un : Bool) (hf : b.f = true) (hlt : am / 1000 * sh / 100 < sumI (rkF (srB L))) :
    b.a / 1000 * (am / 1000 * sh / 100) - sumI (rkF (srB L)) < gvA (hdA am le sh un L) b.bd b.num / 1000 * sumI (rkF (srB L)) ∧ gvA (hdA am le sh un L) b.bd b.num / 1000 * sumI (rkF (srB L)) < b.a / 1000 * (am / 1000 * sh / 100) + sumI (rkF (srB L)) := by
  obtain ⟨i, g, hi, h1, h2, h3⟩ := h.at hb
  rw [h3 un, Int.mul_ediv_cancel _ (by decide)]
  obtain ⟨j, -, hv, hgg⟩ := h.free h1 hf
  have o := h.rfOk
  obtain ⟨x, hx, -, -, -, -, hb⟩ := svd_at o.t0 o.t1 o.l o.b hv
  rw [h2, getD_some hx] at hgg; cases hgg
  rw [Int.mul_comm (b.a / 1000)]
  exact hb hlt
theorem HdIn.askBd {am le sh : Int} {L : List Bid} (h : HdIn am le sh L) : 0 ≤ sumI (rkF (srB L)) := (sumI_bd h.rfOk.l h.rfOk.b).1
/-! the order -/
theorem strict_eq {α : Type} {R : α → α → Prop} (has : ∀ x y, R x y → ¬ R y x) : ∀ {A B : List α}, A.Pairwise R → B.Pairwise R → A.Perm B → A = B
  | [], B, _, _, h => by rw [List.nil_perm] at h; exact h.symm
  | a :: A, [], _, _, h => by have := h.length_eq; simp at this
  | a :: A, b :: B, hA, hB, h => by
    rw [List.pairwise_cons] at hA hB
    have e : a = b := by
      refine Classical.byContradiction fun hne => ?_
      have h1 : a ∈ b :: B := h.mem_iff.1 (by simp)
      have h2 : b ∈ a :: A := h.mem_iff.2 (by simp)
      have h3 : a ∈ B := by rcases List.mem_cons.1 h1 with h | h; (exact absurd h hne); (exact h)
      have h4 : b ∈ A := by rcases List.mem_cons.1 h2 with h | h; (exact absurd h.symm hne); (exact h)
      exact has _ _ (hA.1 b h4) (hB.1 a h3)
    subst e
    rw [strict_eq has hA.2 hB.2 ((List.perm_cons a).1 h)]
theorem srB_strict {L : List Bid} (h : KeysB L) : (srB L).Pairwise (fun x y => cmpB x y < 0) := by
  have h1 := srt_asc cmpB_wk L
  have h2 := keysB_srB h
  refine (List.Pairwise.and h1 h2).imp fun {x y} hxy => ?_
  obtain ⟨q1, q2⟩ := hxy
  have q3 : ¬ cmpB y x < 0 := by simpa [ltz] using q1
  rw [cmpB_neg] at q3 ⊢
  omega
theorem srB_perm {A B : List Bid} (hA : KeysB A) (p : A.Perm B) : srB A = srB B := by
  have hB : KeysB B := keysB_perm p.symm hA
  refine strict_eq (R := fun x y => cmpB x y < 0) (fun x y h1 h2 => ?_) (srB_strict hA) (srB_strict hB) (((srt_perm A).trans p).trans (srt_perm B).symm)
  rw [cmpB_neg] at h1 h2
  omega
theorem hd_perm {A B : List Bid} (hA : KeysB A) (p : A.Perm B) (am le sh : Int) (un : Bool) : hdC am le sh A = hdC am le sh B ∧ hdS am le sh A = hdS am le sh B ∧ hdA am le sh un A = hdA am le sh un B := by
  unfold hdC hdS hdA
  rw [srB_perm hA p]
  exact ⟨rfl, rfl, rfl⟩
/-- the bids backwards, turned -/
def otL (L : List Bid) (t : Nat) : List Bid := L.reverse.drop (t % L.length) ++ L.reverse.take (t % L.length)
theorem otL_perm (L : List Bid) (t : Nat) : (otL L t).Perm L := by
  unfold otL
  refine List.perm_append_comm.trans ?_
  rw [List.take_append_drop]
  exact List.reverse_perm L
theorem otL_at {L : List Bid} {t k : Nat} (hk : k < L.length) : (otL L t)[k]? = L[L.length - 1 - (k + t) % L.length]? := by
  have hr : t % L.length < L.length := Nat.mod_lt _ (by omega)
  have e : (k + t) % L.length = (k + t % L.length) % L.length := by rw [Nat.add_mod_mod]
  rw [e]
  obtain ⟨r, hr2⟩ : ∃ r, t % L.length = r := ⟨_, rfl⟩
  unfold otL
  rw [hr2] at hr ⊢
  have hm : (k + r) % L.length = if k + r < L.length then k + r else k + r - L.length := by
    split
    · exact Nat.mod_eq_of_lt ‹_›
    · rw [Nat.mod_eq_sub_mod (by omega), Nat.mod_eq_of_lt (by omega)]
  rw [hm]
  have hlen : (L.reverse.drop r).length = L.length - r := by rw [List.length_drop, List.length_reverse]
  by_cases h : k + r < L.length
  · rw [if_pos h, List.getElem?_append_left (by omega), List.getElem?_drop, List.getElem?_reverse (by omega)]
    congr 1; omega
  · rw [if_neg h, List.getElem?_append_right (by omega), hlen, List.getElem?_take_of_lt (by omega), List.getElem?_reverse (by omega)]
    congr 1; omega
theorem otL_len (L : List Bid) (t : Nat) : (otL L t).length = L.length := (otL_perm L t).length_eq
theorem HdIn.perm {am le sh : Int} {A B : List Bid} (h : HdIn am le sh A) (p : B.Perm A) : HdIn am le sh B :=
  ⟨fun x hx => h.ok x (p.mem_iff.1 hx), keysB_perm p h.k, by rw [p.length_eq]; exact h.n, h.o, by
    have := srB_perm (keysB_perm p h.k) p
    rw [this]; exact h.p⟩
/-! yields -/
theorem awT_un {le : Int} {S : List Bid} {G : List Int} : ∀ (k : Nat), (awT le false S G k).length = (awT le true S G k).length ∧ ∀ (i : Nat) (x y : Awd), (awT le false S G k)[i]? = some x → (awT le true S G k)[i]? = some y → x.a = y.a ∧ ∃ (j : Nat) (b : Bid) (g : Int), S[j]? = some b ∧ G[j]? = some g ∧ 0 < g ∧ x = ⟨b.bd, b.num, g * 1000, prV le false S G b⟩ ∧ y = ⟨b.bd, b.num, g * 1000, prV le true S G b⟩
  | 0 => ⟨rfl, fun i x y h => by simp [awT] at h⟩
  | k + 1 => by
    have ih := awT_un (le := le) (S := S) (G := G) k
    cases h1 : S[k]? with
    | none => rw [awT, awT, h1]; exact ih
    | some b =>
      cases h2 : G[k]? with
      | none => rw [awT, awT, h1, h2]; exact ih
      | some g =>
        by_cases h0 : 0 < g
        · rw [awT_yes h1 h2 h0, awT_yes h1 h2 h0]
          refine ⟨by simp [ih.1], fun i x y hx hy => ?_⟩
          rcases Nat.lt_or_ge i (awT le false S G k).length with hi | hi
          · rw [List.getElem?_append_left hi] at hx
            rw [List.getElem?_append_left (by rw [← ih.1]; exact hi)] at hy
            exact ih.2 i x y hx hy
          · have hlt := (List.getElem?_eq_some_iff.1 hx).1
            simp only [List.length_append, List.length_cons, List.length_nil] at hlt
            obtain rfl : i = (awT le false S G k).length := by omega
            rw [List.getElem?_append_right (Nat.le_refl _), Nat.sub_self] at hx
            rw [ih.1, List.getElem?_append_right (Nat.le_refl _), Nat.sub_self] at hy
            simp only [List.getElem?_cons_zero, Option.some.injEq] at hx hy
            subst hx hy
            exact ⟨rfl, k, b, g, h1, h2, h0, rfl, rfl⟩
        · rw [awT_no h1 h2 h0, awT_no h1 h2 h0]; exact ih
theorem HdIn.avg {am le sh : Int} {L : List Bid} (h : HdIn am le sh L) (hC : hdC am le sh L ≠ 0) : hdC am le sh L ≤ (avP (srB L) (hdG am le sh (srB L)) (srB L).length + avQ (srB L) (hdG am le sh (srB L)) (srB L).length - 1) / avQ (srB L) (hdG am le sh (srB L)) (srB L).length ∧ (avP (srB L) (hdG am le sh (srB L)) (srB L).length + avQ (srB L) (hdG am le sh (srB L)) (srB L).length - 1) / avQ (srB L) (hdG am le sh (srB L)) (srB L).length ≤ 200000 := by
  have hp : ∀ x ∈ srB L, x.f = false → 1 ≤ x.p := fun x hx hf => ((h.ok x ((srt_mem _ _).1 hx)).pc hf).1
  exact avg_between h.gotOk (cut_avQ h.gotOk _ hC) fun j c d hj j1 j2 hcf hd => ⟨(cutT_le hp _ j c d hj j1 j2 hcf hd).2, ((h.ok c ((srt_mem _ _).1 (List.mem_of_getElem? j1))).pc hcf).2⟩
theorem HdIn.cutBd {am le sh : Int} {L : List Bid} (h : HdIn am le sh L) : 0 ≤ hdC am le sh L ∧ hdC am le sh L ≤ 200000 := by
  by_cases hC : hdC am le sh L = 0
  · omega
  · obtain ⟨j, c, d, hj, j1, j2, hcf, hd, he⟩ := cutT_one (S := srB L) (G := hdG am le sh (srB L)) (srB L).length hC
    have := (h.ok c ((srt_mem _ _).1 (List.mem_of_getElem? j1))).pc hcf
    rw [he] at this
    exact ⟨by have := this.1; unfold hdC; omega, this.2⟩
/-- the price of an award, whatever the rule -/
theorem HdIn.prices {am le sh : Int} {L : List Bid} (h : HdIn am le sh L) {j : Nat} {b : Bid} {g : Int} (h1 : (srB L)[j]? = some b) (h2 : (hdG am le sh (srB L))[j]? = some g) (h0 : 0 < g) :
    0 ≤ prV le true (srB L) (hdG am le sh (srB L)) b ∧ prV le true (srB L) (hdG am le sh (srB L)) b ≤ prV le false (srB L) (hdG am le sh (srB L)) b ∧ prV le false (srB L) (hdG am le sh (srB L)) b ≤ 200000 := by
  have hj : j < (srB L).length := (List.getElem?_eq_some_iff.1 h1).1
  have hp : ∀ x ∈ srB L, x.f = false → 1 ≤ x.p := fun x hx hf => ((h.ok x ((srt_mem _ _).1 hx)).pc hf).1
  have eC : cutT (srB L) (hdG am le sh (srB L)) (srB L).length = hdC am le sh L := rfl
  have cb := h.cutBd
  by_cases hC : hdC am le sh L = 0
  · have e1 : ∀ un, prV le un (srB L) (hdG am le sh (srB L)) b = le := fun un => by rw [prV, eC, if_pos hC]
    rw [e1, e1]
    have := h.o.l0; have := h.o.l1; omega
  · have e1 : prV le true (srB L) (hdG am le sh (srB L)) b = hdC am le sh L := by rw [prV, eC, if_neg hC, if_pos rfl]
    rw [e1]
    cases hf : b.f with
    | true =>
      have e2 : prV le false (srB L) (hdG am le sh (srB L)) b = (avP (srB L) (hdG am le sh (srB L)) (srB L).length + avQ (srB L) (hdG am le sh (srB L)) (srB L).length - 1) / avQ (srB L) (hdG am le sh (srB L)) (srB L).length := by rw [prV, eC, if_neg hC, if_neg (by decide), hf, if_pos rfl]
      rw [e2]
      have := h.avg hC
      omega
    | false =>
      have e2 : prV le false (srB L) (hdG am le sh (srB L)) b = b.p := by rw [prV, eC, if_neg hC, if_neg (by decide), hf, if_neg (by decide)]
      rw [e2]
      have q1 := (cutT_le hp _ j b g hj h1 h2 hf h0).2
      rw [eC] at q1
      have q2 := (h.ok b ((srt_mem _ _).1 (List.mem_of_getElem? h1))).pc hf
      omega
/-- an award that can be paid -/
structure AwdOk (x : Awd) : Prop where
  a0 : 0 ≤ x.a
  a1 : x.a ≤ 1000000000
  p0 : 0 ≤ x.p
  p1 : x.p ≤ 200000
theorem HdIn.awd {am le sh : Int} {L : List Bid} (h : HdIn am le sh L) (un : Bool) : ∀ x ∈ hdA am le sh un L, AwdOk x := by
  intro x hx
  obtain ⟨i, b, g, hi, h1, h2, h0, rfl⟩ := awT_mem _ x hx
  have hp := h.prices h1 h2 h0
  have hg := h.g g (List.mem_of_getElem? h2)
  refine ⟨by simp only; omega, by simp only; omega, ?_, ?_⟩
  · cases un <;> simp only <;> omega
  · cases un <;> simp only <;> omega
/-- the price of an amount, and of all awards -/
def payV (n p : Int) : Int := (n * p + 50000) / 100000
def caT (A : List Awd) : Nat → Int
  | 0 => 0
  | k + 1 => match A[k]? with
    | some x => caT A k + payV x.a x.p
    | none => caT A k
theorem caT_succ {A : List Awd} {k : Nat} {x : Awd} (h : A[k]? = some x) : caT A (k + 1) = caT A k + payV x.a x.p := by rw [caT, h]
theorem pay_mono {n p q : Int} (h0 : 0 ≤ n) (h : p ≤ q) : payV n p ≤ payV n q := by
  unfold payV
  have := Int.mul_le_mul_of_nonneg_left h h0
  exact Int.ediv_le_ediv (by decide) (by omega)
theorem pay_bd {n p : Int} (h0 : 0 ≤ n) (h1 : n ≤ 1000000000) (p0 : 0 ≤ p) (p1 : p ≤ 200000) : 0 ≤ payV n p ∧ payV n p ≤ 2000000001 ∧ 0 ≤ n * p ∧ n * p ≤ 200000000000000 := by
  have m0 := Int.mul_nonneg h0 p0
  have m1 : n * p ≤ 1000000000 * 200000 := Int.mul_le_mul h1 p1 p0 (by decide)
  unfold payV
  omega
theorem caT_bd {A : List Awd} (h : ∀ x ∈ A, AwdOk x) : ∀ k : Nat, 0 ≤ caT A k ∧ caT A k ≤ k * 2000000001
  | 0 => by simp [caT]
  | k + 1 => by
    have ih := caT_bd h k
    cases hx : A[k]? with
    | none => rw [caT, hx]; simp only; omega
    | some x =>
      rw [caT_succ hx]
      have o := h x (List.mem_of_getElem? hx)
      have := pay_bd o.a0 o.a1 o.p0 o.p1
      omega
theorem caT_le {A B : List Awd} (hA : ∀ x ∈ A, AwdOk x) (hl : A.length = B.length) (h : ∀ (i : Nat) (x y : Awd), A[i]? = some x → B[i]? = some y → x.a = y.a ∧ y.p ≤ x.p) : ∀ k, caT B k ≤ caT A k
  | 0 => Int.le_refl _
  | k + 1 => by
    have ih := caT_le hA hl h k
    cases hx : A[k]? with
    | none =>
      have hy : B[k]? = none := by
        have : A.length ≤ k := by simpa using hx
        exact List.getElem?_eq_none (by omega)
      rw [caT, caT, hx, hy]; exact ih
    | some x =>
      have hk := (List.getElem?_eq_some_iff.1 hx).1
      obtain ⟨y, hy⟩ : ∃ y, B[k]? = some y := ⟨_, List.getElem?_eq_getElem (by omega)⟩
      rw [caT_succ hx, caT_succ hy]
      obtain ⟨h1, h2⟩ := h k x y hx hy
      rw [← h1]
      have := pay_mono (hA x (List.mem_of_getElem? hx)).a0 h2
      omega
structure YldOk (A B : List Awd) : Prop where
  l : A.length = B.length
  p : ∀ (i : Nat) (x y : Awd), A[i]? = some x → B[i]? = some y → x.a = y.a ∧ y.p ≤ x.p
  c : ∀ k, caT B k ≤ caT A k
theorem yields_ok {am le sh : Int} {L : List Bid} (h : HdIn am le sh L) : YldOk (hdA am le sh false L) (hdA am le sh true L) := by
  have hu := awT_un (le := le) (S := srB L) (G := hdG am le sh (srB L)) (srB L).length
  have hp : ∀ (i : Nat) (x y : Awd), (hdA am le sh false L)[i]? = some x → (hdA am le sh true L)[i]? = some y → x.a = y.a ∧ y.p ≤ x.p := fun i x y hx hy => by
    obtain ⟨e, j, b, g, h1, h2, h0, rfl, rfl⟩ := hu.2 i x y hx hy
    exact ⟨rfl, (h.prices h1 h2 h0).2.1⟩
  exact ⟨hu.1, hp, caT_le (h.awd false) hu.1 hp⟩
end Go.Proofs.Ytenbbmmbpjjjpaa
