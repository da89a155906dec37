/- Auction: what each place is served, plainly. -/
import Derived.Test.YtenbbmmbpjjjpaaZL32G
namespace Go.Proofs.Ytenbbmmbpjjjpaa
open Go.RowKit
set_option linter.unusedVariables false
set_option linter.unusedSimpArgs false
theorem nodup_inj {L : List Int} (h : L.Nodup) {i j : Nat} (hi : i < L.length) (hj : j < L.length) (e : L[i] = L[j]) : i = j := by
  unfold List.Nodup at h
  rw [List.pairwise_iff_getElem] at h
  rcases Nat.lt_trichotomy i j with g | g | g
  · exact absurd e (h i j hi hj g)
  · exact g
  · exact absurd e.symm (h j i hj hi g)
/-! stores at places of their own -/
theorem stT_far {G I V : List Int} {i : Nat} (h : ∀ x ∈ I, x.toNat ≠ i) : ∀ m, m ≤ I.length → (stT G I V m)[i]? = G[i]?
  | 0, _ => rfl
  | m + 1, hm => by
    have hx : I.getD m 0 ∈ I := by
      rw [List.getD_eq_getElem?_getD, List.getElem?_eq_getElem (by omega)]; exact List.getElem_mem _
    rw [stT, List.getElem?_set_ne (h _ hx), stT_far h m (by omega)]
theorem stT_at {G I V : List Int} (hn : I.Nodup) (h0 : ∀ x ∈ I, 0 ≤ x) {j : Nat} {i : Int} (hj : I[j]? = some i) (hi : i.toNat < G.length) : ∀ m, j < m → m ≤ I.length → (stT G I V m)[i.toNat]? = some (V.getD j 0)
  | 0, h, _ => by omega
  | m + 1, h, hm => by
    rw [stT]
    rcases Nat.lt_or_ge j m with hjm | hjm
    · have hne : (I.getD m 0).toNat ≠ i.toNat := by
        intro e
        rw [List.getD_eq_getElem?_getD, List.getElem?_eq_getElem (show m < I.length by omega)] at e
        simp only [Option.getD_some] at e
        obtain ⟨h1, h2⟩ := List.getElem?_eq_some_iff.1 hj
        have a0 := h0 _ (List.getElem_mem (show m < I.length by omega))
        have b0 := h0 i (List.mem_of_getElem? hj)
        have : I[m]'(by omega) = I[j] := by omega
        have := nodup_inj hn _ _ this
        omega
      rw [List.getElem?_set_ne hne]
      exact stT_at hn h0 hj hi m hjm (by omega)
    · have e : j = m := by omega
      subst e
      rw [List.getD_eq_getElem?_getD, hj]
      simp only [Option.getD_some]
      rw [List.getElem?_set_self (by rw [stT_len]; exact hi)]
theorem sumI_stT {G I V : List Int} (hn : I.Nodup) (h0 : ∀ x ∈ I, 0 ≤ x ∧ x.toNat < G.length) (hz : ∀ x ∈ I, G[x.toNat]? = some 0) : ∀ m, m ≤ I.length → V.length = I.length → sumI (stT G I V m) = sumI G + sumI (V.take m)
  | 0, _, _ => by simp [stT, sumI]
  | m + 1, hm, hv => by
    have ih := sumI_stT (V := V) hn h0 hz m (by omega) hv
    have hI : I[m]? = some I[m] := List.getElem?_eq_getElem (by omega)
    have hV : V[m]? = some V[m] := List.getElem?_eq_getElem (by omega)
    have hx := List.getElem_mem (show m < I.length by omega)
    have hb := h0 _ hx
    have hfar : (stT G I V m)[(I[m]).toNat]? = some 0 := by
      have key : ∀ m' , m' ≤ m → (stT G I V m')[(I[m]).toNat]? = some 0 := by
        intro m'
        induction m' with
        | zero => intro _; exact hz _ hx
        | succ q ihq =>
          intro hq
          have hqI : I[q]? = some I[q] := List.getElem?_eq_getElem (by omega)
          have hne : (I.getD q 0).toNat ≠ (I[m]).toNat := by
            intro e
            rw [List.getD_eq_getElem?_getD, hqI] at e
            simp only [Option.getD_some] at e
            have a0 := h0 _ (List.getElem_mem (show q < I.length by omega))
            have : I[q]'(by omega) = I[m] := by omega
            have := nodup_inj hn _ _ this
            omega
          rw [stT, List.getElem?_set_ne hne]
          exact ihq (by omega)
      exact key m (Nat.le_refl _)
    rw [stT_succ hI hV, sumI_set (by rw [stT_len]; exact hb.2), ih, sumI_snoc hV, List.getD_eq_getElem?_getD, hfar]
    simp only [Option.getD_some]; omega
/-- groups of places: each place at most once -/
structure GrpOk (m : Nat) (GG : List (List Int)) : Prop where
  nd : ∀ g ∈ GG, g.Nodup
  i : ∀ g ∈ GG, ∀ x ∈ g, 0 ≤ x ∧ x.toNat < m
  dj : ∀ (k l : Nat) (g h : List Int) (x : Int), GG[k]? = some g → GG[l]? = some h → x ∈ g → x ∈ h → k = l
theorem gvT_far {G : List Int} {GG VV : List (List Int)} {i : Nat} : ∀ m, (∀ k g, k < m → GG[k]? = some g → ∀ x ∈ g, x.toNat ≠ i) → (gvT G GG VV m)[i]? = G[i]?
  | 0, _ => rfl
  | m + 1, h => by
    have ih := gvT_far (G := G) (VV := VV) m fun k g hk => h k g (by omega)
    rw [gvT]
    cases hg : GG[m]? with
    | none => rw [List.getD_eq_getElem?_getD, hg]; exact ih
    | some g =>
      rw [List.getD_eq_getElem?_getD, hg]
      simp only [Option.getD_some]
      rw [stT_far (h m g (by omega) hg) _ (Nat.le_refl _)]
      exact ih
theorem gvT_at {G : List Int} {GG VV : List (List Int)} (hG : GrpOk G.length GG) {k : Nat} {g : List Int} (hk : GG[k]? = some g) {j : Nat} {i : Int} (hj : g[j]? = some i) : ∀ m, k < m → (gvT G GG VV m)[i.toNat]? = some ((VV.getD k []).getD j 0)
  | 0, h => by omega
  | m + 1, h => by
    rw [gvT]
    have hgm := List.mem_of_getElem? hk
    have hig := List.mem_of_getElem? hj
    have hi := hG.i g hgm i hig
    rcases Nat.lt_or_ge k m with hkm | hkm
    · have ih := gvT_at (VV := VV) hG hk hj m hkm
      cases hg : GG[m]? with
      | none => rw [List.getD_eq_getElem?_getD, hg]; exact ih
      | some g' =>
        rw [List.getD_eq_getElem?_getD, hg]
        simp only [Option.getD_some]
        rw [stT_far _ _ (Nat.le_refl _)]
        · exact ih
        · intro x hx e
          have hx0 := hG.i g' (List.mem_of_getElem? hg) x hx
          have : x = i := by omega
          subst this
          have := hG.dj k m g g' x hk hg hig hx
          omega
    · have e : k = m := by omega
      subst e
      rw [List.getD_eq_getElem?_getD, hk]
      simp only [Option.getD_some]
      exact stT_at (hG.nd g hgm) (fun x hx => (hG.i g hgm x hx).1) hj (by rw [gvT_len]; exact hi.2) _ (List.getElem?_eq_some_iff.1 hj).1 (Nat.le_refl _)
theorem sumI_gvT {G : List Int} {GG VV : List (List Int)} (hG : GrpOk G.length GG) (hz : ∀ g ∈ GG, ∀ x ∈ g, G[x.toNat]? = some 0) (hl : VV.length = GG.length) (hv : ∀ (k : Nat) (g v : List Int), GG[k]? = some g → VV[k]? = some v → v.length = g.length) : ∀ m, m ≤ GG.length → sumI (gvT G GG VV m) = sumI G + gnT VV m
  | 0, _ => by simp [gvT, gnT]
  | m + 1, hm => by
    have ih := sumI_gvT hG hz hl hv m (by omega)
    have hg : GG[m]? = some GG[m] := List.getElem?_eq_getElem (by omega)
    have hV : VV[m]? = some VV[m] := List.getElem?_eq_getElem (by omega)
    have hgm := List.mem_of_getElem? hg
    have hlen := hv m _ _ hg hV
    rw [gvT_succ hg hV, gnT_succ hV, sumI_stT (hG.nd _ hgm) (fun x hx => by rw [gvT_len]; exact hG.i _ hgm x hx) (fun x hx => ?_) _ (Nat.le_refl _) hlen, ih, ← hlen, List.take_length]
    · omega
    · rw [gvT_far]
      · exact hz _ hgm x hx
      · intro k g hk hkg y hy e
        have h1 := hG.i _ hgm x hx
        have h2 := hG.i g (List.mem_of_getElem? hkg) y hy
        have : y = x := by omega
        subst this
        have := hG.dj k m _ _ y hkg hg hy hx
        omega
/-! the places -/
theorem frT_iff (S : List Bid) : ∀ (k : Nat) (x : Int), x ∈ frT S k ↔ 0 ≤ x ∧ x < k ∧ isF S x.toNat = true
  | 0, x => by simp [frT]; omega
  | k + 1, x => by
    have ih := frT_iff S k x
    rw [frT]
    split
    · rename_i hf
      rw [List.mem_append, ih, List.mem_singleton]
      constructor
      · rintro (h | rfl)
        · exact ⟨h.1, by omega, h.2.2⟩
        · exact ⟨by omega, by omega, by simpa using hf⟩
      · rintro ⟨h0, h1, h2⟩
        by_cases hk : x = k
        · exact .inr hk
        · exact .inl ⟨h0, by omega, h2⟩
    · rename_i hf
      rw [ih]
      constructor
      · rintro h; exact ⟨h.1, by omega, h.2.2⟩
      · rintro ⟨h0, h1, h2⟩
        have hk : x ≠ k := fun e => by subst e; simp at h2; exact hf h2
        exact ⟨h0, by omega, h2⟩
theorem grpT_iff (S : List Bid) (le p : Int) : ∀ (k : Nat) (x : Int), x ∈ grpT S le p k ↔ 0 ≤ x ∧ x < k ∧ isC S le p x.toNat = true
  | 0, x => by simp [grpT]; omega
  | k + 1, x => by
    have ih := grpT_iff S le p k x
    rw [grpT]
    split
    · rename_i hf
      rw [List.mem_append, ih, List.mem_singleton]
      constructor
      · rintro (h | rfl)
        · exact ⟨h.1, by omega, h.2.2⟩
        · exact ⟨by omega, by omega, by simpa using hf⟩
      · rintro ⟨h0, h1, h2⟩
        by_cases hk : x = k
        · exact .inr hk
        · exact .inl ⟨h0, by omega, h2⟩
    · rename_i hf
      rw [ih]
      constructor
      · rintro h; exact ⟨h.1, by omega, h.2.2⟩
      · rintro ⟨h0, h1, h2⟩
        have hk : x ≠ k := fun e => by subst e; simp at h2; exact hf h2
        exact ⟨h0, by omega, h2⟩
theorem nodup_snoc {L : List Int} {x : Int} (h : L.Nodup) (hx : x ∉ L) : (L ++ [x]).Nodup := by
  rw [List.nodup_append]
  exact ⟨h, by simp, fun a ha b hb => by simp only [List.mem_singleton] at hb; subst hb; exact fun e => hx (e ▸ ha)⟩
theorem frT_nodup (S : List Bid) : ∀ k, (frT S k).Nodup
  | 0 => by simp [frT]
  | k + 1 => by
    have ih := frT_nodup S k
    rw [frT]
    split
    · exact nodup_snoc ih fun h => by have := (frT_iff S k _).1 h; omega
    · exact ih
theorem grpT_nodup (S : List Bid) (le p : Int) : ∀ k, (grpT S le p k).Nodup
  | 0 => by simp [grpT]
  | k + 1 => by
    have ih := grpT_nodup S le p k
    rw [grpT]
    split
    · exact nodup_snoc ih fun h => by have := (grpT_iff S le p k _).1 h; omega
    · exact ih
theorem prcT_in (S : List Bid) (le : Int) : ∀ (k : Nat) (p : Int), p ∈ prcT S le k → grpT S le p k ≠ []
  | 0, p, h => by simp [prcT] at h
  | k + 1, p, h => by
    have ih := prcT_in S le k p
    have up : grpT S le p k ≠ [] → grpT S le p (k + 1) ≠ [] := fun h => by
      rw [grpT]; split
      · simp
      · exact h
    rw [prcT] at h
    split at h
    · rename_i x hx
      split at h
      · rename_i hc
        rw [List.mem_append] at h
        rcases h with h | h
        · exact up (ih h)
        · simp only [List.mem_singleton] at h
          subst h
          rw [grpT]
          unfold isC
          rw [hx]
          simp [hc.1, hc.2.1]
      · exact up (ih h)
    · exact up (ih h)
theorem prcT_of (S : List Bid) (le : Int) : ∀ (k i : Nat) (b : Bid), S[i]? = some b → i < k → b.f = false → le ≤ b.p → b.p ∈ prcT S le k
  | 0, _, _, _, h, _, _ => by omega
  | k + 1, i, b, hb, hi, hf, hp => by
    rw [prcT]
    rcases Nat.lt_or_ge i k with hik | hik
    · have ih := prcT_of S le k i b hb hik hf hp
      split
      · split
        · rw [List.mem_append]; exact .inl ih
        · exact ih
      · exact ih
    · have e : i = k := by omega
      subst e
      rw [hb]
      simp only
      by_cases hg : grpT S le b.p i = []
      · rw [if_pos ⟨hf, hp, hg⟩]; simp
      · rw [if_neg (fun h => hg h.2.2)]
        obtain ⟨x, hx⟩ := List.exists_mem_of_ne_nil _ hg
        obtain ⟨x0, x1, x2⟩ := (grpT_iff S le b.p i x).1 hx
        unfold isC at x2
        split at x2
        · rename_i c hc
          simp only [Bool.and_eq_true, Bool.not_eq_true', decide_eq_true_eq] at x2
          have := prcT_of S le i x.toNat c hc (by omega) x2.1 x2.2.1
          rw [x2.2.2] at this
          exact this
        · cases x2
theorem prcT_nodup (S : List Bid) (le : Int) : ∀ k, (prcT S le k).Nodup
  | 0 => by simp [prcT]
  | k + 1 => by
    have ih := prcT_nodup S le k
    rw [prcT]
    split
    · split
      · rename_i hc
        exact nodup_snoc ih fun h => prcT_in S le k _ h hc.2.2
      · exact ih
    · exact ih
/-- the prices, the greatest first -/
def psB (S : List Bid) (le : Int) : List Int := dsP (prcT S le S.length)
theorem psB_mem (S : List Bid) (le p : Int) : p ∈ psB S le ↔ p ∈ prcT S le S.length := srt_mem _ _
theorem psB_nodup (S : List Bid) (le : Int) : (psB S le).Nodup := (srt_perm _).nodup_iff.2 (prcT_nodup _ _ _)
theorem psB_desc (S : List Bid) (le : Int) : (psB S le).Pairwise (fun a b => b < a) := by
  have h := srt_asc dsP_wk (prcT S le S.length)
  have hn := psB_nodup S le
  unfold psB dsP at hn ⊢
  refine (List.Pairwise.and h hn).imp fun {a b} hab => ?_
  obtain ⟨h1, h2⟩ := hab
  have h3 : ¬ cmpI a b < 0 := by simpa [ltc] using h1
  rcases Int.lt_trichotomy a b with h | h | h
  · exact absurd (show cmpI a b < 0 by unfold cmpI; rw [if_pos h]; omega) h3
  · exact absurd h h2
  · exact h
theorem compL_eq (S : List Bid) (le : Int) : compL S le = (psB S le).map fun p => grpT S le p S.length := rfl
theorem isC_iff {S : List Bid} {le p : Int} {i : Nat} {b : Bid} (h : S[i]? = some b) : isC S le p i = true ↔ b.f = false ∧ le ≤ b.p ∧ b.p = p := by
  unfold isC; rw [h]; simp
theorem compL_grp (S : List Bid) (le : Int) : GrpOk S.length (compL S le) := by
  rw [compL_eq]
  refine ⟨fun g hg => ?_, fun g hg x hx => ?_, fun k l g h x hk hl hx hy => ?_⟩
  · obtain ⟨p, hp, rfl⟩ := List.mem_map.1 hg
    exact grpT_nodup _ _ _ _
  · obtain ⟨p, hp, rfl⟩ := List.mem_map.1 hg
    have := (grpT_iff S le p _ x).1 hx
    omega
  · rw [List.getElem?_map, Option.map_eq_some_iff] at hk hl
    obtain ⟨p, hp, rfl⟩ := hk
    obtain ⟨q, hq, rfl⟩ := hl
    obtain ⟨x0, x1, x2⟩ := (grpT_iff S le p _ x).1 hx
    obtain ⟨-, -, y2⟩ := (grpT_iff S le q _ x).1 hy
    have hb : S[x.toNat]? = some (S[x.toNat]'(by omega)) := List.getElem?_eq_getElem (by omega)
    have e1 := (isC_iff hb).1 x2
    have e2 := (isC_iff hb).1 y2
    have epq : p = q := by omega
    subst epq
    obtain ⟨h1, h3⟩ := List.getElem?_eq_some_iff.1 hp
    obtain ⟨h2, h4⟩ := List.getElem?_eq_some_iff.1 hq
    exact nodup_inj (psB_nodup S le) h1 h2 (h3.trans h4.symm)
theorem free_grp (S : List Bid) : GrpOk S.length [frT S S.length] := by
  refine ⟨fun g hg => ?_, fun g hg x hx => ?_, fun k l g h x hk hl hx hy => ?_⟩
  · simp only [List.mem_singleton] at hg; subst hg; exact frT_nodup _ _
  · simp only [List.mem_singleton] at hg; subst hg
    have := (frT_iff S _ x).1 hx
    omega
  · have h1 := (List.getElem?_eq_some_iff.1 hk).1
    have h2 := (List.getElem?_eq_some_iff.1 hl).1
    simp only [List.length_cons, List.length_nil] at h1 h2
    omega
/-! serving -/
/-- what is left ahead of rank k -/
def lfT (left : Int) (RR : List (List Int)) : Nat → Int
  | 0 => left
  | k + 1 => lfT left RR k - min (lfT left RR k) (sumI (RR.getD k []))
theorem lfT_cons (left : Int) (r : List Int) (RR : List (List Int)) : ∀ k, lfT left (r :: RR) (k + 1) = lfT (left - min left (sumI r)) RR k
  | 0 => by simp [lfT]
  | k + 1 => by rw [lfT, lfT_cons left r RR k, lfT]; simp only [List.getD_cons_succ]
theorem lfT_bd {left : Int} {RR : List (List Int)} (hR : ∀ r ∈ RR, 0 ≤ sumI r) (h0 : 0 ≤ left) : ∀ k, 0 ≤ lfT left RR k ∧ lfT left RR k ≤ left
  | 0 => ⟨h0, Int.le_refl _⟩
  | k + 1 => by
    have ih := lfT_bd hR h0 k
    have : 0 ≤ sumI (RR.getD k []) := by
      rw [List.getD_eq_getElem?_getD]
      cases h : RR[k]? with
      | none => simp [sumI]
      | some r => exact hR r (List.mem_of_getElem? h)
    rw [lfT]; omega
theorem lfT_anti {left : Int} {RR : List (List Int)} (hR : ∀ r ∈ RR, 0 ≤ sumI r) (h0 : 0 ≤ left) {k l : Nat} (h : k ≤ l) : lfT left RR l ≤ lfT left RR k := by
  induction h with
  | refl => exact Int.le_refl _
  | step h ih =>
    rename_i m
    have := lfT_bd hR h0 m
    have h2 : 0 ≤ sumI (RR.getD m []) := by
      rw [List.getD_eq_getElem?_getD]
      cases h : RR[m]? with
      | none => simp [sumI]
      | some r => exact hR r (List.mem_of_getElem? h)
    rw [lfT]; omega
theorem srvL_at : ∀ (RR : List (List Int)) (left : Int) (k : Nat) (r : List Int), RR[k]? = some r → (srvL left RR)[k]? = some (if lfT left RR k < sumI r then partsL (lfT left RR k) r else r)
  | [], _, k, r, h => by simp at h
  | q :: RR, left, 0, r, h => by
    simp only [List.getElem?_cons_zero, Option.some.injEq] at h
    subst h
    rfl
  | q :: RR, left, k + 1, r, h => by
    simp only [List.getElem?_cons_succ] at h
    rw [srvL, List.getElem?_cons_succ, srvL_at RR _ k r h, lfT_cons]
/-- what is given and what is left make the whole -/
theorem gn_lf {RR : List (List Int)} (hR : RanksOk RR) {left : Int} (h0 : 0 ≤ left) (h1 : left ≤ 1000000) : ∀ k, gnT (srvL left RR) k + lfT left RR k = left
  | 0 => by simp [gnT, lfT]
  | k + 1 => by
    have ih := gn_lf hR h0 h1 k
    have hb := lfT_bd (RR := RR) (fun r hr => (sumI_bd (hR.k r hr) (hR.b r hr)).1) h0 k
    cases h : RR[k]? with
    | none =>
      have hl : RR.length ≤ k := by simpa using h
      have hv : (srvL left RR)[k]? = none := by rw [List.getElem?_eq_none]; rw [(srvL_ok RR left hR h0 h1).1]; exact hl
      rw [gnT, lfT, List.getD_eq_getElem?_getD, List.getD_eq_getElem?_getD, h, hv]
      simp only [Option.getD_none, sumI]; omega
    | some r =>
      have hm := List.mem_of_getElem? h
      rw [gnT_succ (srvL_at RR left k r h), lfT, List.getD_eq_getElem?_getD, h]
      simp only [Option.getD_some]
      by_cases hlt : lfT left RR k < sumI r
      · rw [if_pos hlt, (parts_ok hb.1 (by omega) (hR.k r hm) (hR.b r hm) hlt).sum]; omega
      · rw [if_neg hlt]; omega
/-- all is given if there is enough to give it to -/
theorem lfT_end {RR : List (List Int)} {left : Int} (hR : ∀ r ∈ RR, 0 ≤ sumI r) : ∀ k, lfT left RR k ≤ 0 ∨ lfT left RR k = left - sumI ((RR.take k).map sumI)
  | 0 => .inr (by simp [lfT, sumI])
  | k + 1 => by
    have ih := lfT_end (left := left) hR k
    rw [lfT]
    cases h : RR[k]? with
    | none =>
      rw [List.getD_eq_getElem?_getD, h]
      have hl : RR.length ≤ k := by simpa using h
      rw [List.take_of_length_le (show RR.length ≤ k + 1 by omega)]
      rw [List.take_of_length_le hl] at ih
      simp only [Option.getD_none, sumI]
      omega
    | some r =>
      rw [List.getD_eq_getElem?_getD, h, take_snocZ h, List.map_append, sumI_append]
      simp only [Option.getD_some, List.map_cons, List.map_nil, sumI]
      have := hR r (List.mem_of_getElem? h)
      omega
/-- no part is more than what is asked -/
theorem parts_le {t : Int} {W p : List Int} (h : PartsFair t W p) (h0 : 0 ≤ t) (hlt : t < sumI W) (hw : ∀ w ∈ W, 0 ≤ w) {k : Nat} {v : Int} (hv : W[k]? = some v) : ∃ x, p[k]? = some x ∧ 0 ≤ x ∧ x ≤ v := by
  obtain ⟨x, hx, h1, h2, h3, h4⟩ := h.get k v hv
  have hv0 := hw v (List.mem_of_getElem? hv)
  have hx0 := h.nonneg h0 (by omega) hw x (List.mem_of_getElem? hx)
  refine ⟨x, hx, hx0, ?_⟩
  rcases Int.lt_or_eq_of_le hv0 with hv1 | hv1
  · have hm : t * v < v * sumI W := by rw [Int.mul_comm t]; exact Int.mul_lt_mul_of_pos_left hlt hv1
    have : t * v / sumI W < v := by rw [Int.ediv_lt_iff_lt_mul (by omega)]; exact hm
    omega
  · have := h4 hv1.symm; omega
end Go.Proofs.Ytenbbmmbpjjjpaa
