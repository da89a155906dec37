/- Auction: Hold, plain. Auction: plain lemmas on the cut-off, the average and the awards. -/
import Derived.Test.YtenbbmmbpjjjpaaZAucH
namespace Go.Proofs.Ytenbbmmbpjjjpaa
open Go.RowKit
set_option linter.unusedVariables false
set_option linter.unusedSimpArgs false
theorem srvL_sum : ∀ (RR : List (List Int)) (left : Int), RanksOk RR → 0 ≤ left → left ≤ 1000000 → ∀ k : Nat, 0 ≤ gnT (srvL left RR) k ∧ gnT (srvL left RR) k ≤ left
  | RR, left, hR, h0, h1, k => by
    have key : ∀ (RR : List (List Int)) (left : Int), RanksOk RR → 0 ≤ left → left ≤ 1000000 → ∀ k : Nat, 0 ≤ gnT (srvL left RR) k ∧ gnT (srvL left RR) k ≤ left := by
      intro RR
      induction RR with
      | nil =>
        intro left _ h0 h1 k
        have : ∀ k, gnT (srvL left []) k = 0 := by
          intro k
          induction k with
          | zero => rfl
          | succ k ih => rw [gnT, ih]; simp [srvL, sumI]
        rw [this]; omega
      | cons r RR ih =>
        intro left hR h0 h1 k
        have hb := hR.b r (by simp)
        have hk := hR.k r (by simp)
        obtain ⟨s0, s1⟩ := sumI_bd hk hb
        have hR2 : RanksOk RR := ⟨by have := hR.n; simp at this; omega, fun r hr => hR.k r (by simp [hr]), fun r hr => hR.b r (by simp [hr])⟩
        have hfirst : sumI (if left < sumI r then partsL left r else r) = min left (sumI r) := by
          by_cases hlt : left < sumI r
          · rw [if_pos hlt, (parts_ok h0 h1 hk hb hlt).sum]; omega
          · rw [if_neg hlt]; omega
        have hsh : ∀ k, gnT (srvL left (r :: RR)) (k + 1) = min left (sumI r) + gnT (srvL (left - min left (sumI r)) RR) k := by
          intro k
          induction k with
          | zero => rw [gnT]; simp [srvL, gnT, hfirst]
          | succ k ihk =>
            rw [gnT, ihk, gnT]
            simp only [srvL, List.getD_cons_succ]
            omega
        cases k with
        | zero => simp [gnT]; omega
        | succ k =>
          rw [hsh]
          have := ih (left - min left (sumI r)) hR2 (by omega) (by omega) k
          omega
    exact key RR left hR h0 h1 k
theorem svN_bd {left : Int} {S : List Bid} {GG : List (List Int)} (hS : ∀ x ∈ S, 1000 ≤ x.a ∧ x.a ≤ 1000000000) (hG : PlacesOk S.length GG) (h0 : 0 ≤ left) (h1 : left ≤ 1000000) : 0 ≤ svN left S GG ∧ svN left S GG ≤ left :=
  srvL_sum _ left (rkL_ok hS hG) h0 h1 _
theorem stT_bd {G I V : List Int} (hG : ∀ x ∈ G, 0 ≤ x ∧ x ≤ 1000000) (hV : ∀ x ∈ V, 0 ≤ x ∧ x ≤ 1000000) : ∀ j, ∀ x ∈ stT G I V j, 0 ≤ x ∧ x ≤ 1000000
  | 0 => hG
  | j + 1 => by
    intro x hx
    rw [stT] at hx
    rcases List.mem_or_eq_of_mem_set hx with h | h
    · exact stT_bd hG hV j x h
    · rw [h, List.getD_eq_getElem?_getD]
      cases hj : V[j]? with
      | none => simp
      | some v => exact hV v (List.mem_of_getElem? hj)
theorem gvT_bd {G : List Int} {GG VV : List (List Int)} (hG : ∀ x ∈ G, 0 ≤ x ∧ x ≤ 1000000) (hV : ∀ r ∈ VV, ∀ x ∈ r, 0 ≤ x ∧ x ≤ 1000000) : ∀ k, ∀ x ∈ gvT G GG VV k, 0 ≤ x ∧ x ≤ 1000000
  | 0 => hG
  | k + 1 => by
    rw [gvT]
    refine stT_bd (gvT_bd hG hV k) ?_ _
    rw [List.getD_eq_getElem?_getD]
    cases hk : VV[k]? with
    | none => simp
    | some r => exact hV r (List.mem_of_getElem? hk)
theorem svG_bd {left : Int} {S : List Bid} {G : List Int} {GG : List (List Int)} (hS : ∀ x ∈ S, 1000 ≤ x.a ∧ x.a ≤ 1000000000) (hGG : PlacesOk S.length GG) (h0 : 0 ≤ left) (h1 : left ≤ 1000000) (hG : ∀ x ∈ G, 0 ≤ x ∧ x ≤ 1000000) : ∀ x ∈ svG left S G GG, 0 ≤ x ∧ x ≤ 1000000 := by
  have hR := rkL_ok hS hGG
  have hv := srvL_ok _ left hR h0 h1
  refine gvT_bd hG (fun r hr => ?_) _
  obtain ⟨k, hk⟩ := List.mem_iff_getElem?.1 hr
  have hkl := (List.getElem?_eq_some_iff.1 hk).1
  exact (hv.2 k _ r (List.getElem?_eq_getElem (by rw [← hv.1]; exact hkl)) hk).2
theorem svG_len (left : Int) (S : List Bid) (G : List Int) (GG : List (List Int)) : (svG left S G GG).length = G.length := gvT_len _ _ _ _
theorem frT_mem (S : List Bid) : ∀ k, ∀ i ∈ frT S k, 0 ≤ i ∧ i < k
  | 0, i, h => by simp [frT] at h
  | k + 1, i, h => by
    have ih := frT_mem S k i
    rw [frT] at h
    split at h
    · rw [List.mem_append] at h
      rcases h with h | h
      · have := ih h; omega
      · simp only [List.mem_singleton] at h; omega
    · have := ih h; omega
theorem grpT_mem (S : List Bid) (le p : Int) : ∀ k, ∀ i ∈ grpT S le p k, 0 ≤ i ∧ i < k
  | 0, i, h => by simp [grpT] at h
  | k + 1, i, h => by
    have ih := grpT_mem S le p k i
    rw [grpT] at h
    split at h
    · rw [List.mem_append] at h
      rcases h with h | h
      · have := ih h; omega
      · simp only [List.mem_singleton] at h; omega
    · have := ih h; omega
theorem free_ok {S : List Bid} (h : S.length ≤ 60) : PlacesOk S.length [frT S S.length] :=
  ⟨by simp, fun g hg => by simp only [List.mem_singleton] at hg; subst hg; have := frT_len S S.length; omega, fun g hg i hi => by simp only [List.mem_singleton] at hg; subst hg; exact frT_mem S _ i hi⟩
theorem comp_ok {S : List Bid} {le : Int} (h : S.length ≤ 60) (hp : (prcT S le S.length).length ≤ 12) : PlacesOk S.length (compL S le) := by
  unfold compL dsP
  refine ⟨by rw [List.length_map, srt_length]; omega, fun g hg => ?_, fun g hg i hi => ?_⟩
  · obtain ⟨p, hp, rfl⟩ := List.mem_map.1 hg
    have := grpT_len S le p S.length
    omega
  · obtain ⟨p, hp, rfl⟩ := List.mem_map.1 hg
    exact grpT_mem S le p _ i hi
/-- the awards to the first k bids, and their sum -/
def awT (le : Int) (un : Bool) (S : List Bid) (G : List Int) : Nat → List Awd
  | 0 => []
  | k + 1 => match S[k]?, G[k]? with
    | some b, some g => if 0 < g then awT le un S G k ++ [⟨b.bd, b.num, g * 1000, prV le un S G b⟩] else awT le un S G k
    | _, _ => awT le un S G k
def sdT (G : List Int) : Nat → Int
  | 0 => 0
  | k + 1 => match G[k]? with
    | some g => if 0 < g then sdT G k + g * 1000 else sdT G k
    | none => sdT G k
theorem awT_len (le : Int) (un : Bool) (S : List Bid) (G : List Int) : ∀ k, (awT le un S G k).length ≤ k
  | 0 => by simp [awT]
  | k + 1 => by
    have := awT_len le un S G k
    rw [awT]
    split
    · split
      · simp; omega
      · omega
    · omega
theorem awT_yes {le : Int} {un : Bool} {S : List Bid} {G : List Int} {k : Nat} {b : Bid} {g : Int} (h1 : S[k]? = some b) (h2 : G[k]? = some g) (h : 0 < g) : awT le un S G (k + 1) = awT le un S G k ++ [⟨b.bd, b.num, g * 1000, prV le un S G b⟩] := by
  rw [awT, h1, h2]; simp only; rw [if_pos h]
theorem awT_no {le : Int} {un : Bool} {S : List Bid} {G : List Int} {k : Nat} {b : Bid} {g : Int} (h1 : S[k]? = some b) (h2 : G[k]? = some g) (h : ¬ 0 < g) : awT le un S G (k + 1) = awT le un S G k := by
  rw [awT, h1, h2]; simp only; rw [if_neg h]
theorem sdT_yes {G : List Int} {k : Nat} {g : Int} (h2 : G[k]? = some g) (h : 0 < g) : sdT G (k + 1) = sdT G k + g * 1000 := by
  rw [sdT, h2]; simp only; rw [if_pos h]
theorem sdT_no {G : List Int} {k : Nat} {g : Int} (h2 : G[k]? = some g) (h : ¬ 0 < g) : sdT G (k + 1) = sdT G k := by
  rw [sdT, h2]; simp only; rw [if_neg h]
theorem sdT_bd {G : List Int} (hG : ∀ x ∈ G, 0 ≤ x ∧ x ≤ 1000000) : ∀ k : Nat, 0 ≤ sdT G k ∧ sdT G k ≤ k * 1000000000
  | 0 => by simp [sdT]
  | k + 1 => by
    have ih := sdT_bd hG k
    cases h : G[k]? with
    | none => rw [sdT, h]; simp only; omega
    | some g =>
      have := hG g (List.mem_of_getElem? h)
      by_cases h0 : 0 < g
      · rw [sdT_yes h h0]; omega
      · rw [sdT_no h h0]; omega
/-- the auction, told plainly -/
def frG (am sh : Int) (S : List Bid) : List Int := svG (am / 1000 * sh / 100) S (List.replicate S.length 0) [frT S S.length]
def frN (am sh : Int) (S : List Bid) : Int := svN (am / 1000 * sh / 100) S [frT S S.length]
def hdG (am le sh : Int) (S : List Bid) : List Int := svG (am / 1000 - frN am sh S) S (frG am sh S) (compL S le)
/-- what Hold gives: the cut-off, the sum and the awards -/
def hdC (am le sh : Int) (L : List Bid) : Int := cutT (srB L) (hdG am le sh (srB L)) (srB L).length
def hdS (am le sh : Int) (L : List Bid) : Int := sdT (hdG am le sh (srB L)) (srB L).length
def hdA (am le sh : Int) (un : Bool) (L : List Bid) : List Awd := awT le un (srB L) (hdG am le sh (srB L)) (srB L).length
end Go.Proofs.Ytenbbmmbpjjjpaa
namespace Go.Proofs.Ytenbbmmbpjjjpaa
open Go.RowKit
set_option linter.unusedVariables false
set_option linter.unusedSimpArgs false
/-- an award goes to a bid that got something -/
theorem awT_mem {le : Int} {un : Bool} {S : List Bid} {G : List Int} : ∀ (k : Nat) (a : Awd), a ∈ awT le un S G k → ∃ (i : Nat) (b : Bid) (g : Int), i < k ∧ S[i]? = some b ∧ G[i]? = some g ∧ 0 < g ∧ a = ⟨b.bd, b.num, g * 1000, prV le un S G b⟩
  | 0, a, h => by simp [awT] at h
  | k + 1, a, h => by
    have ih := awT_mem (le := le) (un := un) (S := S) (G := G) k a
    have back : a ∈ awT le un S G k → ∃ (i : Nat) (b : Bid) (g : Int), i < k + 1 ∧ S[i]? = some b ∧ G[i]? = some g ∧ 0 < g ∧ a = ⟨b.bd, b.num, g * 1000, prV le un S G b⟩ := fun h => by
      obtain ⟨i, b, g, h1, h2⟩ := ih h
      exact ⟨i, b, g, by omega, h2⟩
    cases h1 : S[k]? with
    | none => rw [awT, h1] at h; exact back h
    | some b =>
      cases h2 : G[k]? with
      | none => rw [awT, h1, h2] at h; exact back h
      | some g =>
        by_cases h0 : 0 < g
        · rw [awT_yes h1 h2 h0, List.mem_append] at h
          rcases h with h | h
          · exact back h
          · simp only [List.mem_singleton] at h
            exact ⟨k, b, g, by omega, h1, h2, h0, h⟩
        · rw [awT_no h1 h2 h0] at h
          exact back h
/-- the cut-off is at most the price of each competitive one that got something, and one of these prices -/
theorem cutT_le {S : List Bid} {G : List Int} (hp : ∀ x ∈ S, x.f = false → 1 ≤ x.p) : ∀ (k i : Nat) (b : Bid) (g : Int), i < k → S[i]? = some b → G[i]? = some g → b.f = false → 0 < g → cutT S G k ≠ 0 ∧ cutT S G k ≤ b.p
  | 0, i, b, g, h, _, _, _, _ => by omega
  | k + 1, i, b, g, hi, hb, hg, hf, h0 => by
    have ih := cutT_le (G := G) hp k
    cases h1 : S[k]? with
    | none =>
      have e : cutT S G (k + 1) = cutT S G k := by rw [cutT, h1]
      rw [e]
      have hik : i ≠ k := fun h => by subst h; rw [h1] at hb; cases hb
      exact ih i b g (by omega) hb hg hf h0
    | some c =>
      cases h2 : G[k]? with
      | none =>
        have e : cutT S G (k + 1) = cutT S G k := by rw [cutT, h1, h2]
        rw [e]
        have hik : i ≠ k := fun h => by subst h; rw [h2] at hg; cases hg
        exact ih i b g (by omega) hb hg hf h0
      | some d =>
        rw [cutT_succ h1 h2]
        rcases Nat.lt_or_ge i k with hik | hik
        · obtain ⟨q1, q2⟩ := ih i b g hik hb hg hf h0
          split
          · rename_i hc
            have := hp c (List.mem_of_getElem? h1) hc.1
            rcases hc.2.2 with h | h
            · exact absurd h q1
            · omega
          · exact ⟨q1, q2⟩
        · obtain rfl : i = k := by omega
          rw [h1] at hb; cases hb
          rw [h2] at hg; cases hg
          have := hp b (List.mem_of_getElem? h1) hf
          by_cases hc : cutT S G i = 0 ∨ b.p < cutT S G i
          · rw [if_pos ⟨hf, h0, hc⟩]; omega
          · rw [if_neg (fun h => hc h.2.2)]
            have h3 : cutT S G i ≠ 0 := fun h => hc (.inl h)
            have h4 : ¬ b.p < cutT S G i := fun h => hc (.inr h)
            exact ⟨h3, by omega⟩
theorem cutT_one {S : List Bid} {G : List Int} : ∀ (k : Nat), cutT S G k ≠ 0 → ∃ (i : Nat) (b : Bid) (g : Int), i < k ∧ S[i]? = some b ∧ G[i]? = some g ∧ b.f = false ∧ 0 < g ∧ b.p = cutT S G k
  | 0, h => by simp [cutT] at h
  | k + 1, h => by
    have ih := cutT_one (S := S) (G := G) k
    have back : cutT S G (k + 1) = cutT S G k → ∃ (i : Nat) (b : Bid) (g : Int), i < k + 1 ∧ S[i]? = some b ∧ G[i]? = some g ∧ b.f = false ∧ 0 < g ∧ b.p = cutT S G (k + 1) := fun e => by
      obtain ⟨i, b, g, h1, h2, h3, h4, h5, h6⟩ := ih (by rw [← e]; exact h)
      exact ⟨i, b, g, by omega, h2, h3, h4, h5, by rw [e]; exact h6⟩
    cases h1 : S[k]? with
    | none => exact back (by rw [cutT, h1])
    | some b =>
      cases h2 : G[k]? with
      | none => exact back (by rw [cutT, h1, h2])
      | some g =>
        by_cases hc : b.f = false ∧ 0 < g ∧ (cutT S G k = 0 ∨ b.p < cutT S G k)
        · exact ⟨k, b, g, by omega, h1, h2, hc.1, hc.2.1, by rw [cutT_succ h1 h2, if_pos hc]⟩
        · exact back (by rw [cutT_succ h1 h2, if_neg hc])
/-- what competitive ones pay lies between the lots times the least and times the greatest price -/
theorem av_between {S : List Bid} {G : List Int} (hG : GotOk S G) {C M : Int} : ∀ (k : Nat), (∀ (i : Nat) (b : Bid) (g : Int), i < k → S[i]? = some b → G[i]? = some g → b.f = false → 0 < g → C ≤ b.p ∧ b.p ≤ M) → avQ S G k * C ≤ avP S G k ∧ avP S G k ≤ avQ S G k * M
  | 0, _ => by simp [avP, avQ]
  | k + 1, h => by
    obtain ⟨q1, q2⟩ := av_between hG (C := C) (M := M) k fun i b g hi => h i b g (by omega)
    cases h1 : S[k]? with
    | none =>
      have e1 : avP S G (k + 1) = avP S G k := by rw [avP, h1]
      have e2 : avQ S G (k + 1) = avQ S G k := by rw [avQ, h1]
      rw [e1, e2]; exact ⟨q1, q2⟩
    | some b =>
      cases h2 : G[k]? with
      | none =>
        have e1 : avP S G (k + 1) = avP S G k := by rw [avP, h1, h2]
        have e2 : avQ S G (k + 1) = avQ S G k := by rw [avQ, h1, h2]
        rw [e1, e2]; exact ⟨q1, q2⟩
      | some g =>
        rw [avP_succ h1 h2, avQ_succ h1 h2]
        by_cases hf : b.f = false
        · rw [if_pos hf, if_pos hf, Int.add_mul, Int.add_mul]
          obtain ⟨g0, g1⟩ := hG.g g (List.mem_of_getElem? h2)
          rcases Int.lt_or_eq_of_le g0 with hg | hg
          · obtain ⟨p1, p2⟩ := h k b g (by omega) h1 h2 hf hg
            have r1 := Int.mul_le_mul_of_nonneg_left p1 g0
            have r2 := Int.mul_le_mul_of_nonneg_left p2 g0
            omega
          · rw [← hg]; simp only [Int.zero_mul]; omega
        · rw [if_neg hf, if_neg hf]; exact ⟨q1, q2⟩
theorem avg_between {S : List Bid} {G : List Int} (hG : GotOk S G) {C M : Int} {k : Nat} (hq : 0 < avQ S G k) (h : ∀ (i : Nat) (b : Bid) (g : Int), i < k → S[i]? = some b → G[i]? = some g → b.f = false → 0 < g → C ≤ b.p ∧ b.p ≤ M) :
    C ≤ (avP S G k + avQ S G k - 1) / avQ S G k ∧ (avP S G k + avQ S G k - 1) / avQ S G k ≤ M := by
  obtain ⟨h1, h2⟩ := av_between hG k h
  refine ⟨?_, ?_⟩
  · rw [Int.le_ediv_iff_mul_le hq, Int.mul_comm]; omega
  · have : (avP S G k + avQ S G k - 1) / avQ S G k < M + 1 := by
      rw [Int.ediv_lt_iff_lt_mul hq, Int.add_mul, Int.one_mul, Int.mul_comm M]; omega
    omega
end Go.Proofs.Ytenbbmmbpjjjpaa
