/- Auction: what a bid got, plainly. -/
import Derived.Test.YtenbbmmbpjjjpaaZL32P
import Derived.Test.YtenbbmmbpjjjpaaZAucU
namespace Go.Proofs.Ytenbbmmbpjjjpaa
open Go.RowKit
set_option linter.unusedVariables false
set_option linter.unusedSimpArgs false
theorem keysB_ne {S : List Bid} (h : KeysB S) {i j : Nat} {b c : Bid} (hi : S[i]? = some b) (hj : S[j]? = some c) (hne : i ≠ j) : ¬ (b.bd = c.bd ∧ b.num = c.num) := by
  unfold KeysB at h
  rw [List.pairwise_iff_getElem] at h
  obtain ⟨h1, rfl⟩ := List.getElem?_eq_some_iff.1 hi
  obtain ⟨h2, rfl⟩ := List.getElem?_eq_some_iff.1 hj
  rcases Nat.lt_or_gt_of_ne hne with g | g
  · exact h i j h1 h2 g
  · intro e
    exact h j i h2 h1 g ⟨e.1.symm, e.2.symm⟩
theorem keysB_eq {S : List Bid} (h : KeysB S) {i j : Nat} {b c : Bid} (hi : S[i]? = some b) (hj : S[j]? = some c) (e1 : b.bd = c.bd) (e2 : b.num = c.num) : i = j :=
  Classical.byContradiction fun hne => keysB_ne h hi hj hne ⟨e1, e2⟩
theorem keysB_perm {S L : List Bid} (p : S.Perm L) (h : KeysB L) : KeysB S :=
  (List.Perm.pairwise_iff (fun {x y} h e => h ⟨e.1.symm, e.2.symm⟩) p).2 h
theorem keysB_srB {L : List Bid} (h : KeysB L) : KeysB (srB L) := keysB_perm (srt_perm L) h
theorem gvA_none : ∀ {A : List Awd} {b n : Int}, (∀ x ∈ A, ¬ (x.bd = b ∧ x.num = n)) → gvA A b n = 0
  | [], _, _, _ => rfl
  | x :: A, b, n, h => by rw [gvA, if_neg (h x (by simp))]; exact gvA_none fun y hy => h y (by simp [hy])
theorem gvA_skip : ∀ {A B : List Awd} {b n : Int}, (∀ x ∈ A, ¬ (x.bd = b ∧ x.num = n)) → gvA (A ++ B) b n = gvA B b n
  | [], _, _, _, _ => rfl
  | x :: A, B, b, n, h => by rw [List.cons_append, gvA, if_neg (h x (by simp))]; exact gvA_skip fun y hy => h y (by simp [hy])
theorem gvA_last : ∀ {A : List Awd} {x : Awd} {b n : Int}, ¬ (x.bd = b ∧ x.num = n) → gvA (A ++ [x]) b n = gvA A b n
  | [], x, b, n, h => by simp only [List.nil_append, gvA]; rw [if_neg h]
  | y :: A, x, b, n, h => by
    rw [List.cons_append, gvA, gvA]
    split
    · rfl
    · exact gvA_last h
theorem gvA_awT {le : Int} {un : Bool} {S : List Bid} {G : List Int} (hK : KeysB S) (hG : ∀ g ∈ G, 0 ≤ g) : ∀ (k i : Nat) (b : Bid) (g : Int), S[i]? = some b → G[i]? = some g → i < k → gvA (awT le un S G k) b.bd b.num = g * 1000
  | 0, i, b, g, _, _, h => by omega
  | k + 1, i, b, g, hb, hg, hi => by
    have ih := gvA_awT (le := le) (un := un) hK hG k i b g hb hg
    rcases Nat.lt_or_ge i k with hik | hik
    · cases h1 : S[k]? with
      | none => rw [awT, h1]; exact ih hik
      | some c =>
        cases h2 : G[k]? with
        | none => rw [awT, h1, h2]; exact ih hik
        | some d =>
          by_cases h0 : 0 < d
          · rw [awT_yes h1 h2 h0, gvA_last (by simpa using keysB_ne hK h1 hb (by omega))]
            exact ih hik
          · rw [awT_no h1 h2 h0]; exact ih hik
    · have e : i = k := by omega
      subst e
      have hn : ∀ x ∈ awT le un S G i, ¬ (x.bd = b.bd ∧ x.num = b.num) := by
        intro x hx
        obtain ⟨j, c, d, hj, h1, h2, h3, rfl⟩ := awT_mem i x hx
        exact keysB_ne hK h1 hb (by omega)
      by_cases h0 : 0 < g
      · rw [awT_yes hb hg h0, gvA_skip hn, gvA, if_pos ⟨rfl, rfl⟩]
      · rw [awT_no hb hg h0, gvA_none hn]
        have := hG g (List.mem_of_getElem? hg)
        have : g = 0 := by omega
        rw [this]; rfl
/-- what the auction gave: bounds, and as many as bids -/
theorem hdG_len (am le sh : Int) (S : List Bid) : (hdG am le sh S).length = S.length := by
  unfold hdG frG
  rw [svG_len, svG_len, List.length_replicate]
theorem BidOk.p {x : Bid} (h : BidOk x) : 0 ≤ x.p ∧ x.p ≤ 200000 := by
  cases hf : x.f with
  | true => rw [h.pf hf]; decide
  | false => have := h.pc hf; omega
structure HdIn (am le sh : Int) (L : List Bid) : Prop where
  ok : ∀ x ∈ L, BidOk x
  k : KeysB L
  n : L.length ≤ 60
  o : OffOk am le sh
  p : (prcT (srB L) le (srB L).length).length ≤ 12
theorem HdIn.a {am le sh : Int} {L : List Bid} (h : HdIn am le sh L) : ∀ x ∈ srB L, 1000 ≤ x.a ∧ x.a ≤ 1000000000 := fun x hx => by
  have := h.ok x ((srt_mem _ _).1 hx)
  exact ⟨this.a0, this.a1⟩
theorem srB_len (L : List Bid) : (srB L).length = L.length := by unfold srB; exact srt_length _
theorem HdIn.S60 {am le sh : Int} {L : List Bid} (h : HdIn am le sh L) : (srB L).length ≤ 60 := by rw [srB_len]; exact h.n
theorem HdIn.fr {am le sh : Int} {L : List Bid} (h : HdIn am le sh L) : 0 ≤ frN am sh (srB L) ∧ frN am sh (srB L) ≤ am / 1000 * sh / 100 ∧ am / 1000 * sh / 100 ≤ am / 1000 ∧ 0 ≤ am / 1000 * sh / 100 ∧ am / 1000 ≤ 1000000 := by
  obtain ⟨o1, o2, o3, o4, o5, o6, o7⟩ := h.o
  have h0 : 0 ≤ am / 1000 := by omega
  have h1 : am / 1000 ≤ 1000000 := by omega
  have m0 : 0 ≤ am / 1000 * sh := Int.mul_nonneg h0 o6
  have m1 : am / 1000 * sh ≤ am / 1000 * 100 := Int.mul_le_mul_of_nonneg_left o7 h0
  have hl0 : 0 ≤ am / 1000 * sh / 100 := by omega
  have hl1 : am / 1000 * sh / 100 ≤ am / 1000 := by omega
  have := svN_bd (left := am / 1000 * sh / 100) h.a (free_ok h.S60) hl0 (by omega)
  exact ⟨this.1, this.2, hl1, hl0, h1⟩
theorem HdIn.frG {am le sh : Int} {L : List Bid} (h : HdIn am le sh L) : ∀ x ∈ frG am sh (srB L), 0 ≤ x ∧ x ≤ 1000000 := by
  obtain ⟨f1, f2, f3, f4, f5⟩ := h.fr
  exact svG_bd h.a (free_ok h.S60) f4 (by omega) (fun x hx => by rw [List.mem_replicate] at hx; rw [hx.2]; decide)
theorem HdIn.g {am le sh : Int} {L : List Bid} (h : HdIn am le sh L) : ∀ x ∈ hdG am le sh (srB L), 0 ≤ x ∧ x ≤ 1000000 := by
  obtain ⟨f1, f2, f3, f4, f5⟩ := h.fr
  exact svG_bd h.a (comp_ok h.S60 h.p) (by omega) (by omega) h.frG
theorem HdIn.gotOk {am le sh : Int} {L : List Bid} (h : HdIn am le sh L) : GotOk (srB L) (hdG am le sh (srB L)) :=
  ⟨fun x hx => by exact (h.ok x ((srt_mem _ _).1 hx)).p, h.g⟩
theorem HdIn.kS {am le sh : Int} {L : List Bid} (h : HdIn am le sh L) : KeysB (srB L) := keysB_srB h.k
/-- each bid has its place, and what it got there -/
theorem HdIn.at {am le sh : Int} {L : List Bid} (h : HdIn am le sh L) {b : Bid} (hb : b ∈ L) : ∃ (i : Nat) (g : Int), i < (srB L).length ∧ (srB L)[i]? = some b ∧ (hdG am le sh (srB L))[i]? = some g ∧ ∀ un, gvA (hdA am le sh un L) b.bd b.num = g * 1000 := by
  obtain ⟨i, hi⟩ := List.mem_iff_getElem?.1 ((srt_mem (lt := ltz cmpB) L b).2 hb)
  have hil : i < (srB L).length := (List.getElem?_eq_some_iff.1 hi).1
  have hgl : i < (hdG am le sh (srB L)).length := by rw [hdG_len]; exact hil
  refine ⟨i, _, hil, hi, List.getElem?_eq_getElem hgl, fun un => ?_⟩
  exact gvA_awT h.kS (fun g hg => (h.g g hg).1) _ i b _ hi (List.getElem?_eq_getElem hgl) hil
/-- an award is a bid's -/
theorem HdIn.of {am le sh : Int} {L : List Bid} (h : HdIn am le sh L) {un : Bool} {a : Awd} (ha : a ∈ hdA am le sh un L) {b : Bid} (hb : b ∈ L) (e1 : b.bd = a.bd) (e2 : b.num = a.num) : ∃ (i : Nat) (g : Int), i < (srB L).length ∧ (srB L)[i]? = some b ∧ (hdG am le sh (srB L))[i]? = some g ∧ 0 < g ∧ a = ⟨b.bd, b.num, g * 1000, prV le un (srB L) (hdG am le sh (srB L)) b⟩ := by
  obtain ⟨i, c, g, hi, h1, h2, h3, rfl⟩ := awT_mem _ a ha
  obtain ⟨j, d, hj, j1, j2, -⟩ := h.at hb
  have e := keysB_eq h.kS j1 h1 e1 e2
  subst e
  rw [j1] at h1; cases h1
  exact ⟨j, g, hi, j1, h2, h3, rfl⟩
/-- what the law says of one award and its bid -/
structure PrOk (C le M : Int) (un : Bool) (a : Awd) (b : Bid) : Prop where
  z : C = 0 → b.f = true ∧ a.p = le
  u : C ≠ 0 → un = true → a.p = C ∧ (b.f = false → a.p ≤ b.p)
  f : C ≠ 0 → un = false → b.f = true → C ≤ a.p ∧ a.p ≤ M
  c : C ≠ 0 → un = false → b.f = false → a.p = b.p ∧ C ≤ a.p
theorem prices_ok {am le sh : Int} {un : Bool} {L : List Bid} (h : HdIn am le sh L) {M : Int} (hM : ∀ x ∈ L, 0 < gvA (hdA am le sh un L) x.bd x.num → x.p ≤ M) {a : Awd} (ha : a ∈ hdA am le sh un L) {b : Bid} (hb : b ∈ L) (e1 : b.bd = a.bd) (e2 : b.num = a.num) : PrOk (hdC am le sh L) le M un a b := by
  obtain ⟨i, g, hi, h1, h2, h3, rfl⟩ := h.of ha hb e1 e2
  have hp : ∀ x ∈ srB L, x.f = false → 1 ≤ x.p := fun x hx hf => ((h.ok x ((srt_mem _ _).1 hx)).pc hf).1
  have hcut : ∀ (i : Nat) (b : Bid) (g : Int), i < (srB L).length → (srB L)[i]? = some b → (hdG am le sh (srB L))[i]? = some g → b.f = false → 0 < g → hdC am le sh L ≠ 0 ∧ hdC am le sh L ≤ b.p := fun i b g hi h1 h2 hf h3 => cutT_le hp _ i b g hi h1 h2 hf h3
  have eC : cutT (srB L) (hdG am le sh (srB L)) (srB L).length = hdC am le sh L := rfl
  refine ⟨fun hC => ?_, fun hC hu => ?_, fun hC hu hf => ?_, fun hC hu hf => ?_⟩
  · refine ⟨?_, ?_⟩
    · cases hf : b.f with
      | true => rfl
      | false => exact absurd hC (hcut i b g hi h1 h2 hf h3).1
    · simp only [prV]; rw [eC, if_pos hC]
  · have e : prV le un (srB L) (hdG am le sh (srB L)) b = hdC am le sh L := by rw [prV, eC, if_neg hC, hu, if_pos rfl]
    simp only
    rw [e]
    exact ⟨rfl, fun hf => (hcut i b g hi h1 h2 hf h3).2⟩
  · have e : prV le un (srB L) (hdG am le sh (srB L)) b = (avP (srB L) (hdG am le sh (srB L)) (srB L).length + avQ (srB L) (hdG am le sh (srB L)) (srB L).length - 1) / avQ (srB L) (hdG am le sh (srB L)) (srB L).length := by rw [prV, eC, if_neg hC, hu, if_neg (by decide), hf, if_pos rfl]
    simp only
    rw [e]
    refine avg_between h.gotOk (cut_avQ h.gotOk _ hC) fun j c d hj j1 j2 hcf hd => ⟨(hcut j c d hj j1 j2 hcf hd).2, hM c ((srt_mem (lt := ltz cmpB) L c).1 (List.mem_of_getElem? j1)) ?_⟩
    rw [show gvA (hdA am le sh un L) c.bd c.num = d * 1000 from gvA_awT h.kS (fun g hg => (h.g g hg).1) _ j c d j1 j2 hj]
    omega
  · have e : prV le un (srB L) (hdG am le sh (srB L)) b = b.p := by rw [prV, eC, if_neg hC, hu, if_neg (by decide), hf, if_neg (by decide)]
    simp only
    rw [e]
    exact ⟨rfl, (hcut i b g hi h1 h2 hf h3).2⟩
/-- the greatest price of those that got something -/
def mostT (A : List Awd) (L : List Bid) : Nat → Int
  | 0 => 0
  | k + 1 => match L[k]? with
    | some b => if 0 < gvA A b.bd b.num then max (mostT A L k) b.p else mostT A L k
    | none => mostT A L k
theorem mostT_succ {A : List Awd} {L : List Bid} {k : Nat} {b : Bid} (h : L[k]? = some b) : mostT A L (k + 1) = if 0 < gvA A b.bd b.num then max (mostT A L k) b.p else mostT A L k := by rw [mostT, h]
theorem mostT_ge {A : List Awd} {L : List Bid} : ∀ (k i : Nat) (b : Bid), L[i]? = some b → i < k → 0 < gvA A b.bd b.num → b.p ≤ mostT A L k
  | 0, _, _, _, h, _ => by omega
  | k + 1, i, b, hi, h, h0 => by
    have ih := mostT_ge (A := A) (L := L) k i b hi
    cases hk : L[k]? with
    | none =>
      have : i ≠ k := fun e => by subst e; rw [hk] at hi; cases hi
      rw [mostT, hk]; exact ih (by omega) h0
    | some c =>
      rw [mostT_succ hk]
      rcases Nat.lt_or_ge i k with g | g
      · have := ih g h0
        split <;> omega
      · have e : i = k := by omega
        subst e
        rw [hk] at hi; cases hi
        rw [if_pos h0]; omega
theorem mostT_bd {A : List Awd} {L : List Bid} (h : ∀ x ∈ L, 0 ≤ x.p ∧ x.p ≤ 200000) : ∀ k, 0 ≤ mostT A L k ∧ mostT A L k ≤ 200000
  | 0 => by simp [mostT]
  | k + 1 => by
    have ih := mostT_bd (A := A) h k
    cases hk : L[k]? with
    | none => rw [mostT, hk]; exact ih
    | some c =>
      rw [mostT_succ hk]
      have := h c (List.mem_of_getElem? hk)
      split <;> omega
end Go.Proofs.Ytenbbmmbpjjjpaa
