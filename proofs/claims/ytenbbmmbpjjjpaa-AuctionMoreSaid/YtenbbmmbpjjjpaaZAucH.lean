/- Auction: serve, plain. Auction: a number is appended to a slice in a box: the drawn region of serve, by what has been carried out. Auction: serve. Printed by wip/gen/auch.py. -/
import Derived.Test.YtenbbmmbpjjjpaaZAucG
import Derived.Test.YtenbbmmbpjjjpaaZMonC
import Derived.RegionTactic
import Derived.ChangeAlike
namespace Go.Proofs.Ytenbbmmbpjjjpaa
open Go.RowKit
set_option linter.unusedVariables false
set_option linter.unusedSimpArgs false
/-- the lots that the bid at a place asks for -/
def lotT (S : List Bid) (i : Int) : Int := (S.getD i.toNat ⟨0, 0, 0, 0, false⟩).a / 1000
def rkL (S : List Bid) (GG : List (List Int)) : List (List Int) := GG.map fun g => g.map (lotT S)
structure PlacesOk (m : Nat) (GG : List (List Int)) : Prop where
  n : GG.length ≤ 100
  k : ∀ g ∈ GG, g.length ≤ 100
  i : ∀ g ∈ GG, ∀ i ∈ g, 0 ≤ i ∧ i < m
theorem lotT_bd {S : List Bid} (hS : ∀ x ∈ S, 1000 ≤ x.a ∧ x.a ≤ 1000000000) {i : Int} (hi : 0 ≤ i ∧ i < S.length) : 1 ≤ lotT S i ∧ lotT S i ≤ 1000000 := by
  unfold lotT
  have hlt : i.toNat < S.length := by omega
  rw [List.getD_eq_getElem?_getD, List.getElem?_eq_getElem hlt]
  have := hS _ (List.getElem_mem hlt)
  simp only [Option.getD_some]
  omega
theorem rkL_ok {S : List Bid} {GG : List (List Int)} (hS : ∀ x ∈ S, 1000 ≤ x.a ∧ x.a ≤ 1000000000) (hG : PlacesOk S.length GG) : RanksOk (rkL S GG) := by
  unfold rkL
  refine ⟨by simpa using hG.n, fun r hr => ?_, fun r hr x hx => ?_⟩
  · obtain ⟨g, hg, rfl⟩ := List.mem_map.1 hr
    simpa using hG.k g hg
  · obtain ⟨g, hg, rfl⟩ := List.mem_map.1 hr
    obtain ⟨i, hi, rfl⟩ := List.mem_map.1 hx
    have := lotT_bd hS (hG.i g hg i hi)
    omega
theorem parts_ok {left : Int} {r : List Int} (h0 : 0 ≤ left) (h1 : left ≤ 1000000) (hl : r.length ≤ 100) (hb : ∀ x ∈ r, 0 ≤ x ∧ x ≤ 1000000) (hlt : left < sumI r) : PartsFair left r (partsL left r) := by
  have hpe : partsE left r = 0 := by
    unfold partsE
    rw [inB_iff.2 ⟨h0, by omega⟩, if_pos rfl, if_neg (by
      rw [Bool.not_eq_true, List.any_eq_false]
      intro x hx
      obtain ⟨x0, x1⟩ := hb x hx
      unfold wgB
      rw [inB_iff.2 ⟨x0, x1⟩]; simp), if_neg (by omega), if_neg (by omega)]
  unfold partsL
  rw [if_pos hpe]
  exact parts_fair h0 (by omega) fun w hw => (hb w hw).1
theorem fair_bd {left : Int} {r p : List Int} (h : PartsFair left r p) (h0 : 0 ≤ left) (hs : 0 < sumI r) (hb : ∀ x ∈ r, 0 ≤ x ∧ x ≤ 1000000) : ∀ x ∈ p, 0 ≤ x ∧ x ≤ left := by
  intro x hx
  have hn := h.nonneg h0 hs fun w hw => (hb w hw).1
  exact ⟨hn x hx, by have := sumI_mem hn hx; rw [h.sum] at this; exact this⟩
theorem srvL_ok : ∀ (RR : List (List Int)) (left : Int), RanksOk RR → 0 ≤ left → left ≤ 1000000 → (srvL left RR).length = RR.length ∧ ∀ (k : Nat) (r q : List Int), RR[k]? = some r → (srvL left RR)[k]? = some q → q.length = r.length ∧ ∀ x ∈ q, 0 ≤ x ∧ x ≤ 1000000
  | [], left, _, _, _ => ⟨rfl, fun k r q h => by simp at h⟩
  | r :: RR, left, hR, h0, h1 => by
    have hb := hR.b r (by simp)
    have hk := hR.k r (by simp)
    obtain ⟨s0, s1⟩ := sumI_bd hk hb
    have ih := srvL_ok RR (left - min left (sumI r)) ⟨by have := hR.n; simp at this; omega, fun r hr => hR.k r (by simp [hr]), fun r hr => hR.b r (by simp [hr])⟩ (by omega) (by omega)
    refine ⟨by simp [srvL, ih.1], fun k r' q hr hq => ?_⟩
    cases k with
    | succ k => exact ih.2 k r' q (by simpa using hr) (by simpa [srvL] using hq)
    | zero =>
      simp only [List.getElem?_cons_zero, Option.some.injEq] at hr
      subst hr
      simp only [srvL, List.getElem?_cons_zero, Option.some.injEq] at hq
      subst hq
      by_cases hlt : left < sumI r
      · rw [if_pos hlt]
        have hf := parts_ok h0 h1 hk hb hlt
        exact ⟨hf.len, fun x hx => by have := fair_bd hf h0 (by omega) hb x hx; omega⟩
      · rw [if_neg hlt]
        exact ⟨rfl, hb⟩
/-- what is given is stored, place by place -/
def stT (G I V : List Int) : Nat → List Int
  | 0 => G
  | j + 1 => (stT G I V j).set (I.getD j 0).toNat (V.getD j 0)
theorem stT_len (G I V : List Int) : ∀ j, (stT G I V j).length = G.length
  | 0 => rfl
  | j + 1 => by rw [stT, List.length_set, stT_len G I V j]
def gvT (G : List Int) (GG VV : List (List Int)) : Nat → List Int
  | 0 => G
  | k + 1 => stT (gvT G GG VV k) (GG.getD k []) (VV.getD k []) (GG.getD k []).length
theorem gvT_len (G : List Int) (GG VV : List (List Int)) : ∀ k, (gvT G GG VV k).length = G.length
  | 0 => rfl
  | k + 1 => by rw [gvT, stT_len, gvT_len G GG VV k]
/-- what has been given by the first k ranks -/
def gnT (VV : List (List Int)) : Nat → Int
  | 0 => 0
  | k + 1 => gnT VV k + sumI (VV.getD k [])
/-- what serve gives -/
def svG (left : Int) (S : List Bid) (G : List Int) (GG : List (List Int)) : List Int := gvT G GG (srvL left (rkL S GG)) GG.length
def svN (left : Int) (S : List Bid) (GG : List (List Int)) : Int := gnT (srvL left (rkL S GG)) GG.length
theorem stT_succ {G I V : List Int} {j : Nat} {i v : Int} (hi : I[j]? = some i) (hv : V[j]? = some v) : stT G I V (j + 1) = (stT G I V j).set i.toNat v := by
  rw [stT, List.getD_eq_getElem?_getD, List.getD_eq_getElem?_getD, hi, hv]; rfl
theorem gvT_succ {G : List Int} {GG VV : List (List Int)} {k : Nat} {I V : List Int} (hi : GG[k]? = some I) (hv : VV[k]? = some V) : gvT G GG VV (k + 1) = stT (gvT G GG VV k) I V I.length := by
  rw [gvT, List.getD_eq_getElem?_getD, List.getD_eq_getElem?_getD, hi, hv]; rfl
theorem gnT_succ {VV : List (List Int)} {k : Nat} {V : List Int} (hv : VV[k]? = some V) : gnT VV (k + 1) = gnT VV k + sumI V := by
  rw [gnT, List.getD_eq_getElem?_getD, hv]; rfl
theorem gnT_bd {VV : List (List Int)} (hV : ∀ r ∈ VV, r.length ≤ 100 ∧ ∀ x ∈ r, 0 ≤ x ∧ x ≤ 1000000) : ∀ k : Nat, 0 ≤ gnT VV k ∧ gnT VV k ≤ k * 100000000
  | 0 => by simp [gnT]
  | k + 1 => by
    have ih := gnT_bd hV k
    cases h : VV[k]? with
    | none => rw [gnT, List.getD_eq_getElem?_getD, h]; simp [sumI]; omega
    | some V =>
      rw [gnT_succ h]
      have hm := hV V (List.mem_of_getElem? h)
      have := sumI_bd hm.1 hm.2
      omega
end Go.Proofs.Ytenbbmmbpjjjpaa
namespace Go.Proofs.Ytenbbmmbpjjjpaa
open Go.RowKit
set_option linter.unusedVariables false
set_option linter.unusedSimpArgs false
structure D9 (w0 : World) (R base : Nat) (lv : Value) (xs : List Int) (x : Int) (bs ap st : Bool) (s v : Value) (w' : World) : Prop where
  box : st = false → w'.heap[R]? = some (.cells #[lv] 86 (0, 0))
  pre : ap = false → st = false ∧ Below w0.heap.size w0 w' ∧ (bs = true → ∃ g, s = .slice (some ⟨g, 0, none⟩) 1 1 ∧ w'.cell? ⟨g, 0, none⟩ = some (.int .i64 x))
  app : ap = true → st = false → w0.grownBy w' lv.ownBlock ∧ w'.ownsRow base 3 1 v (xs.length + 1) (flatE encI (xs ++ [x]))
  fin : st = true → ∃ v', w'.heap[R]? = some (.cells #[v'] 86 (0, 0)) ∧ w'.ownsRow base 3 1 v' (xs.length + 1) (flatE encI (xs ++ [x])) ∧ w0.heap.size ≤ w'.heap.size ∧ w'.os = w0.os ∧ w'.tape = w0.tape ∧ w'.output = w0.output ∧ ∀ b, b < w0.heap.size → b ≠ R → some b ≠ lv.ownBlock → w'.heap[b]? = w0.heap[b]?
section
variable {w0 w' : World} {R base : Nat} {lv : Value} {xs : List Int} {x : Int} {bs ap st : Bool} {s v : Value}
theorem D9.start (hB : w0.heap[R]? = some (.cells #[lv] 86 (0, 0))) (hw : Below w0.heap.size w0 w') : D9 w0 R base lv xs x false false false s v w' :=
  ⟨fun _ => (hw.block R (Array.getElem?_eq_some_iff.1 hB).1).trans hB, fun _ => ⟨rfl, hw, fun h => (by cases h)⟩, fun h => (by cases h), fun h => (by cases h)⟩
theorem D9.built (h : D9 w0 R base lv xs x false false st s v w') : D9 w0 R base lv xs x true false st (.slice (some ⟨w'.heap.size, 0, none⟩) 1 1) v (w'.alloc (.cells #[.int .i64 x] 3 (0, 0))) := by
  obtain ⟨h1, h2, _⟩ := h.pre rfl
  subst h1
  exact ⟨fun _ => (heap_alloc_old w' _ (Array.getElem?_eq_some_iff.1 (h.box rfl)).1).trans (h.box rfl), fun _ => ⟨rfl, bal h2 _, fun _ => ⟨_, rfl, World.cell?_alloc_at _ _ _ _ rfl⟩⟩, fun h => (by cases h), fun h => (by cases h)⟩
theorem own_ne {w : World} {b base : Nat} {v : Value} {n : Nat} {ys : List Value} {cs : Array Value} {T : TypeId} (hT : T ≠ 3) (hb : w.heap[b]? = some (.cells cs T (0, 0))) (ho : w.ownsRow base 3 1 v n ys) : some b ≠ v.ownBlock := by
  intro e
  rcases ho.2 with ⟨rfl, _⟩ | ⟨g', cap, cur, rfl, hbg, hgc, _⟩
  · cases e
  · simp only [Value.ownBlock, Option.some.injEq] at e
    subst e
    rw [hb] at hgc
    simp only [Option.some.injEq, Obj.cells.injEq] at hgc
    exact hT hgc.2.1
theorem D9.appd (h : D9 w0 R base lv xs x true false st s v w') (ho : w0.ownsRow base 3 1 lv xs.length (flatE encI xs)) (hz : base ≤ w0.heap.size) (hl : xs.length ≤ 1000) (ty : TypeId) :
    ∃ v' w2, (Builtin.append_ #[22, 22] ty #[lv, s]).run Try.prog w' = .ok v' w2 ∧ D9 w0 R base lv xs x true true false s v' w2 := by
  obtain ⟨h1, h2, h3⟩ := h.pre rfl
  obtain ⟨g, rfl, hg⟩ := h3 rfl
  subst h1
  obtain ⟨i1, hi, hz0, hz1, hz2⟩ := info_parts infoInt
  have hown := ownsRow_belowZ ho h2
  obtain ⟨v', w2, hrun, ho2, hg2, _, hloc⟩ := run_append_own_at (P := Try.prog) w' base 22 ty 3 i1 (.int .i64 0) 1 8 Try.underlying22 hi hz0 hz1 hz2 rfl (by decide) lv xs.length _ hown ⟨g, 0, none⟩ 1 1 [.int .i64 x] rfl
    (fun j y hj => by
      have : j = 0 := by have := (List.getElem?_eq_some_iff.1 hj).1; simpa using this
      subst this
      simp only [List.getElem?_cons_zero, Option.some.injEq] at hj
      subst hj
      rw [add_litZ]; exact hg) (fun y hy => by simp only [List.mem_singleton] at hy; subst hy; rfl) (by unfold maxLen; omega) (by omega) (by have := h2.size; omega)
  have hcB := h.box rfl
  have hne := own_ne (by decide) hcB hown
  refine ⟨v', w2, hrun, fun _ => (hg2.block R (Array.getElem?_eq_some_iff.1 hcB).1 hne).trans hcB, fun h => (by cases h), fun _ _ => ⟨⟨hg2.os.trans h2.os, hg2.tape.trans h2.tape, hg2.output.trans h2.output, Nat.le_trans h2.size hg2.size, fun b hb hn => (hg2.block b (by have := h2.size; omega) hn).trans (h2.block b hb)⟩, ?_⟩, fun h => (by cases h)⟩
  rw [flatE_snoc]; exact ho2
theorem D9.stored (h : D9 w0 R base lv xs x true true false s v w') : D9 w0 R base lv xs x true true true s v (w'.setCell ⟨R, 0, none⟩ v) := by
  obtain ⟨h1, h2⟩ := h.app rfl rfl
  have hB := h.box rfl
  have e1 := heap_setCell_same w' R 0 _ _ v hB
  have hoth : ∀ b, b ≠ R → (w'.setCell ⟨R, 0, none⟩ v).heap[b]? = w'.heap[b]? := fun b hb => Below.heap_setCell _ _ _ _ (by simp only; omega)
  refine ⟨fun h => (by cases h), fun h => (by cases h), fun _ h => (by cases h), fun _ => ⟨v, by rw [e1]; rfl, ⟨h2.1, ?_⟩, by have := h1.size; simpa [World.setCell] using this, h1.os, h1.tape, h1.output, fun b hb hR hn => (hoth b hR).trans (h1.block b hb hn)⟩⟩
  have hne := own_ne (by decide) hB h2
  rcases h2.2 with hn | ⟨g, cap, cur, rfl, hbg, hg, hrest⟩
  · exact .inl hn
  · exact .inr ⟨g, cap, cur, rfl, hbg, (hoth g (fun e => hne (by rw [e]; rfl))).trans hg, hrest⟩
end
end Go.Proofs.Ytenbbmmbpjjjpaa
namespace Go.Proofs.Ytenbbmmbpjjjpaa
open Go.RowKit
set_option linter.unusedVariables false
set_option linter.unusedSimpArgs false
theorem RowsI.lowG {Q : Nat → Prop} {N : Nat} {U U' : World} {us : List Value} {GG : List (List Int)} (h : RowsI Q U us GG) (hQ : ∀ b, Q b → b < N) (hb : Below N U U') : RowsI Q U' us GG :=
  ⟨h.1, fun k u G hu hG => (h.2 k u G hu hG).block hb.size fun b hp _ => hb.block b (hQ b hp)⟩
theorem SlsI.grown {P : Nat → Prop} {U U' : World} {v : Value} {GG : List (List Int)} {row : Option Nat} (h : SlsI P U v GG) (hg : U.grownBy U' row) (hp : ∀ b, P b → some b ≠ row) : SlsI P U' v GG := by
  obtain ⟨vs, h1, h2⟩ := h
  exact ⟨vs, h1.block hg.size fun b hb hlt => hg.block b hlt (hp b hb), h2.1, fun k u G hu hG => (h2.2 k u G hu hG).block hg.size fun b hb hlt => hg.block b hlt (hp b hb)⟩
theorem flatI_set (L : List Int) (i : Nat) (x : Int) : (flatE encI L).set i (.int .i64 x) = flatE encI (L.set i x) := by
  rw [flatI, flatI, List.map_set]; rfl
set_option maxHeartbeats 16000000 in
set_option maxRecDepth 100000 in
theorem sserve_any (P : Nat → Prop) (sb bG : Nat) (vS vG vq : Value) (S : List Bid) (G : List Int) (GG : List (List Int)) (left : Int) (w : World)
    (c4 : w.cell? ⟨sb, 4, none⟩ = some vS) (c5 : w.cell? ⟨sb, 5, none⟩ = some vG) (hs : Sl 5 encBid P w vS S) (hown : w.ownsRow bG 3 1 vG G.length (flatE encI G)) (hP : ∀ b, P b → some b ≠ vG.ownBlock) (hsb : some sb ≠ vG.ownBlock)
    (hg : SlsI P w vq GG) (hgg : PlacesOk S.length GG) (hS : ∀ x ∈ S, 1000 ≤ x.a ∧ x.a ≤ 1000000000) (h0 : 0 ≤ left) (h1 : left ≤ 1000000) (hlen : G.length = S.length) (hl60 : S.length ≤ 60) :
    Calls Try.prog 33 #[.pointer (some ⟨sb, 0, none⟩), .int .i64 left, vq] w fun e w' => e = .returned (.int .i64 (svN left S GG)) ∧ w'.ownsRow bG 3 1 vG G.length (flatE encI (svG left S G GG)) ∧ w.grownBy w' vG.ownBlock := by
  obtain ⟨sa, n, sc, rfl, hn, -, -⟩ := hs.shape
  obtain ⟨qa, gn, qc, rfl, hgn, -, -⟩ := hg.shape
  have hn60 : n ≤ 60 := by omega
  have hgn100 : gn ≤ 100 := by have := hgg.n; omega
  have hlsb : sb < w.heap.size := World.block_lt_of_cell? _ _ c4
  obtain ⟨RR, hRR⟩ : ∃ RR, rkL S GG = RR := ⟨_, rfl⟩
  have hrok : RanksOk RR := by rw [← hRR]; exact rkL_ok hS hgg
  obtain ⟨VV, hVV⟩ : ∃ VV, srvL left RR = VV := ⟨_, rfl⟩
  have hvok := srvL_ok RR left hrok h0 h1
  rw [hVV] at hvok
  have hRl : RR.length = gn := by rw [← hRR, rkL, List.length_map]; exact hgn
  have hVl : VV.length = gn := by rw [hvok.1, hRl]
  have hVb : ∀ r ∈ VV, r.length ≤ 100 ∧ ∀ x ∈ r, 0 ≤ x ∧ x ≤ 1000000 := by
    intro r hr
    obtain ⟨k, hk⟩ := List.mem_iff_getElem?.1 hr
    have hkl := (List.getElem?_eq_some_iff.1 hk).1
    have hR : RR[k]? = some RR[k] := List.getElem?_eq_getElem (by omega)
    have := hvok.2 k _ r hR hk
    exact ⟨by rw [this.1]; exact hrok.k _ (List.getElem_mem _), this.2⟩
  have hgr : ∀ (k : Nat) (I V : List Int), GG[k]? = some I → VV[k]? = some V → V.length = I.length := by
    intro k I V hI hV
    have hR : RR[k]? = some (I.map (lotT S)) := by rw [← hRR, rkL, List.getElem?_map, hI]; rfl
    rw [(hvok.2 k _ V hR hV).1, List.length_map]
  have eN : svN left S GG = gnT VV gn := by unfold svN; rw [hRR, hVV, hgn]
  have eG : svG left S G GG = gvT G GG VV gn := by unfold svG; rw [hRR, hVV, hgn]
  rw [eN, eG]
  have hns : S.length = n := hn
  rw [hn] at hgg hlen
  have HC := Lib.hid (And.intro c4 c5)
  have HS := Lib.hid hs
  have HO := Lib.hid hown
  have HP := Lib.hid hP
  have HG := Lib.hid hg
  have HGG := Lib.hid hgg
  have HSA := Lib.hid hS
  have HRR := Lib.hid hRR
  have HROK := Lib.hid hrok
  have HVV := Lib.hid hVV
  have HVB := Lib.hid hVb
  have HGR := Lib.hid hgr
  have HGN := Lib.hid hgn
  have HNS := Lib.hid hns
  have HLEN := Lib.hid hlen
  have HSB := Lib.hid hsb
  have HRL := Lib.hid hRl
  have HVL := Lib.hid hVl
  obtain ⟨i1, hi, hz0, hz1, hz2⟩ := info_parts infoRk
  clear hs hown hP hg hgg hS hRR hrok hVV hvok hVb hgr hgn hns hn hl60 eN eG hsb hlen hRl hVl c5
  go_enter Try.func33, Try.ntmps33
  go_wp2
  go_loopw [7, 20] (fun rv iv wr => ∃ (k : Nat) (us : List Value), k ≤ gn ∧ us.length = k ∧ iv = .int .i64 k ∧ wr.ownsRow w.heap.size 86 1 rv us.length (flatE encV us) ∧ RowsI (fun b => w.heap.size ≤ b ∧ some b ≠ rv.ownBlock) wr us (RR.take k) ∧ Below w.heap.size w wr) (fun _ iv _ => gn - (intOf iv).toNat)
  case atStart => exact ⟨0, [], by omega, rfl, rfl, World.ownsRow_nil _ _ _ _, RowsI.nil, brefl⟩
  case round =>
    obtain ⟨k, us, hk, hus, rfl, hrv, hrow, hbr⟩ := hrel
    obtain ⟨wo, hwo⟩ : ∃ u : World, u = wr := ⟨wr, rfl⟩
    subst hwo
    have zr := hbr.size
    by_cases hlt : k < gn
    · obtain ⟨qb, qoff, ia, il, ic, I, rfl, -, hqb, hI, k0, hil, hSI⟩ := (HG.out.below hbr).at_ hlt
      have hkz : (k : Int) < (gn : Int) := by omega
      have hIm := List.mem_of_getElem? hI
      have hil100 : il ≤ 100 := by have := HGG.out.k I hIm; omega
      have hrk : RR[k]? = some (I.map (lotT S)) := by rw [← HRR.out, rkL, List.getElem?_map, hI]; rfl
      have HIB := Lib.hid (HGG.out.i I hIm)
      obtain ⟨W1, hW1⟩ : ∃ W, W = wo.alloc (.cells #[.slice none 0 0] 86 (0, 0)) := ⟨_, rfl⟩
      have hb1 : Below wo.heap.size wo W1 := by rw [hW1]; exact bal brefl _
      have hB1 : W1.heap[wo.heap.size]? = some (.cells #[.slice none 0 0] 86 (0, 0)) := by rw [hW1]; exact heap_alloc_new wo _
      have zW1 : wo.heap.size < W1.heap.size := (Array.getElem?_eq_some_iff.1 hB1).1
      have HI := Lib.hid hSI
      have HIL := Lib.hid hil
      have HRK := Lib.hid hrk
      have HRV := Lib.hid hrv
      have HROW := Lib.hid hrow
      have HBR := Lib.hid hbr
      have HB1 := Lib.hid hb1
      have HBX1 := Lib.hid hB1
      have HX := Lib.hid hW1
      clear hI hIm hrk hSI hil hrv hrow hbr hb1 hB1 hW1
      go_upto_region 6 with fail
      rw [← HX.out]
      go_wp2
      go_loopw [26] (fun jv wq => ∃ (j : Nat) (lv : Value), j ≤ il ∧ jv = .int .i64 j ∧ wq.heap[wo.heap.size]? = some (.cells #[lv] 86 (0, 0)) ∧ wq.ownsRow (wo.heap.size + 1) 3 1 lv j (flatE encI ((I.map (lotT S)).take j)) ∧ Below wo.heap.size wo wq) (fun jv _ => il - (intOf jv).toNat)
      case atStart => exact ⟨0, .slice none 0 0, by omega, rfl, HBX1.out, World.ownsRow_nil _ _ _ _, HB1.out⟩
      case round =>
        obtain ⟨j, lv, hj, rfl, hbx, hlo, hbq⟩ := hrel
        have zrq := hbq.size
        have hRl : wo.heap.size < wr.heap.size := (Array.getElem?_eq_some_iff.1 hbx).1
        by_cases hjl : j < il
        · obtain ⟨ib, ioff, i, rfl, -, hib, hi', i0⟩ := (HI.out.below hbq).int hjl
          have hjz : (j : Int) < (il : Int) := by omega
          obtain ⟨hi0, hi1'⟩ := HIB.out i (List.mem_of_getElem? hi')
          obtain ⟨ii, rfl⟩ : ∃ m : Nat, i = (m : Int) := ⟨i.toNat, by omega⟩
          have hiin : ii < n := by omega
          have hiz : (ii : Int) < (n : Int) := by omega
          have hbw := HBR.out.trans (hbq.mono zr)
          obtain ⟨bb, boff, bd, num, p, a, f, rfl, -, hbb, hbx2, k0', k1, k2, k3, k4⟩ := (HS.out.below hbw).bid hiin
          have ha := HSA.out _ (List.mem_of_getElem? hbx2)
          simp only at ha
          have hlot : lotT S (ii : Int) = a / 1000 := by unfold lotT; rw [Int.toNat_natCast, List.getD_eq_getElem?_getD, hbx2]; rfl
          have hdv : a.tdiv 1000 = a / 1000 := Int.tdiv_eq_ediv_of_nonneg (by omega)
          have hq0 : 0 ≤ a / 1000 ∧ a / 1000 ≤ 1000000 := by omega
          have hwq : wrap64 (a / 1000) = a / 1000 := IntWalk.wrap64_in _ (by omega)
          have hwi : IntKind.i64.wrap (a / 1000) = a / 1000 := IntWalk.i64_in _ (by omega)
          have htk : (I.map (lotT S)).take (j + 1) = (I.map (lotT S)).take j ++ [a / 1000] := by
            have : (I.map (lotT S))[j]? = some (a / 1000) := by rw [List.getElem?_map, hi']; simp [hlot]
            rw [take_snocZ this]
          obtain ⟨xs, hxs⟩ : ∃ xs, (I.map (lotT S)).take j = xs := ⟨_, rfl⟩
          have hxl : xs.length = j := by rw [← hxs, List.length_take, List.length_map]; have := HIL.out; omega
          rw [hxs] at hlo htk
          obtain ⟨la, lc, rfl⟩ := own_sl hlo
          replace hlo : wr.ownsRow (wo.heap.size + 1) 3 1 (.slice la j lc) xs.length (flatE encI xs) := by rw [hxl]; exact hlo
          have HTK := Lib.hid htk
          have HXL := Lib.hid hxl
          have HLO := Lib.hid hlo
          have HBX := Lib.hid hbx
          have HBQ := Lib.hid hbq
          have HBW := Lib.hid hbw
          have HC5 := Lib.hid (keepB hbw HC.out.1)
          have HK3 := Lib.hid k3
          clear hi' hbx2 hlot htk hxs hlo hbx hbq hbw k0' k1 k2 k3 k4 ha hxl
          go_upto_region 9 with fail
          refine wp_region_any (by kernel_rfl) ?_
          change wpAny _ _ _ _ _ _ _ (World.drew _)
          refine vf_anyP_inv (J := fun listed a' w' => ∃ t30 t31 t32 t33 t34 t35 t36 t37 t38 t39 t40 t41 t42 t43 : Value, a' = { tmps := #[.pointer (some ⟨sb, 0, none⟩), .int .i64 left, .slice (some ⟨qb, qoff, none⟩) gn qc, undef, undef, undef, .int .i64 0, u7, undef, .slice (some ⟨ib, ioff, none⟩) il ic, .pointer (some ⟨wo.heap.size, 0, none⟩), undef, .int .i64 ii, undef, undef, undef, undef, undef, .slice (some ⟨qb, qoff, none⟩) gn qc, .int .i64 gn, .int .i64 k, .bool true, .pointer (some ⟨qb, qoff + k, none⟩), .slice (some ⟨ib, ioff, none⟩) il ic, .slice (some ⟨ib, ioff, none⟩) il ic, .int .i64 il, .int .i64 j, .bool true, .pointer (some ⟨ib, ioff + j, none⟩), .int .i64 ii, t30, t31, t32, t33, t34, t35, t36, t37, t38, t39, t40, t41, t42, t43, u44, u45, u46, u47, u48, u49, undef, undef, undef, undef, undef, undef, undef, undef, undef, undef, undef, undef, undef, undef, undef, undef, undef, undef, undef, undef, undef, undef, undef, undef, undef, undef, undef, undef, undef, undef, undef, undef, undef, undef, undef, undef, undef, undef], defers := [] } ∧ listed.size = 15 ∧ (listed.getD 0 false = true → t30 = .pointer (some ⟨wo.heap.size, 0, none⟩)) ∧ (listed.getD 1 false = true → t31 = .slice la j lc) ∧ (listed.getD 2 false = true → t32 = .pointer (some ⟨sb, 0, none⟩)) ∧ (listed.getD 3 false = true → t33 = .pointer (some ⟨sb, 0, none⟩)) ∧ (listed.getD 4 false = true → t34 = .pointer (some ⟨sb, 4, none⟩)) ∧ (listed.getD 5 false = true → t35 = .slice (some ⟨bb, boff, none⟩) n sc) ∧ (listed.getD 6 false = true → t36 = .int .i64 (ii : Int)) ∧ (listed.getD 7 false = true → t37 = .pointer (some ⟨bb, boff + ii * 5, none⟩)) ∧ (listed.getD 8 false = true → t38 = .pointer (some ⟨bb, boff + ii * 5 + 3, none⟩)) ∧ (listed.getD 9 false = true → t39 = .int .i64 a) ∧ (listed.getD 10 false = true → t40 = .int .i64 (a / 1000)) ∧ (listed.getD 13 false = true → t43 = .pointer (some ⟨wo.heap.size, 0, none⟩)) ∧ (listed.getD 1 false = true → listed.getD 0 false = true) ∧ (listed.getD 3 false = true → listed.getD 2 false = true) ∧ (listed.getD 4 false = true → listed.getD 3 false = true) ∧ (listed.getD 5 false = true → listed.getD 4 false = true) ∧ (listed.getD 7 false = true → listed.getD 5 false = true ∧ listed.getD 6 false = true) ∧ (listed.getD 8 false = true → listed.getD 7 false = true) ∧ (listed.getD 9 false = true → listed.getD 8 false = true) ∧ (listed.getD 10 false = true → listed.getD 9 false = true) ∧ (listed.getD 11 false = true → listed.getD 10 false = true) ∧ (listed.getD 12 false = true → listed.getD 1 false = true ∧ listed.getD 11 false = true) ∧ (listed.getD 14 false = true → listed.getD 12 false = true ∧ listed.getD 13 false = true) ∧ D9 wr wo.heap.size (wo.heap.size + 1) (.slice la j lc) xs (a / 1000) (listed.getD 11 false) (listed.getD 12 false) (listed.getD 14 false) t41 t42 w') ?step ?fin _ _ _ _ ⟨_, _, _, _, _, _, _, _, _, _, _, _, _, _, rfl, rfl, fun h => by simp at h, fun h => by simp at h, fun h => by simp at h, fun h => by simp at h, fun h => by simp at h, fun h => by simp at h, fun h => by simp at h, fun h => by simp at h, fun h => by simp at h, fun h => by simp at h, fun h => by simp at h, fun h => by simp at h, fun h => by simp at h, fun h => by simp at h, fun h => by simp at h, fun h => by simp at h, fun h => by simp at h, fun h => by simp at h, fun h => by simp at h, fun h => by simp at h, fun h => by simp at h, fun h => by simp at h, fun h => by simp at h, D9.start HBX.out (bdr brefl)⟩ (by decide)
          case step =>
            rintro listed a' w' ⟨t30, t31, t32, t33, t34, t35, t36, t37, t38, t39, t40, t41, t42, t43, rfl, hsz, f0, f1, f2, f3, f4, f5, f6, f7, f8, f9, f10, f13, o1, o3, o4, o5, o7, o8, o9, o10, o11, o12, o14, hvb⟩ i hi K hK
            obtain ⟨hni, o, ho, hdep⟩ := mem_ready.1 hi
            have hin : i < 15 := (Array.getElem?_eq_some_iff.1 ho).1
            have hself := vf_listed_self hni
            have hno := vf_listed_no hni
            rcases (show i = 0 ∨ i = 1 ∨ i = 2 ∨ i = 3 ∨ i = 4 ∨ i = 5 ∨ i = 6 ∨ i = 7 ∨ i = 8 ∨ i = 9 ∨ i = 10 ∨ i = 11 ∨ i = 12 ∨ i = 13 ∨ i = 14 by omega) with rfl | rfl | rfl | rfl | rfl | rfl | rfl | rfl | rfl | rfl | rfl | rfl | rfl | rfl | rfl
            · injection ho with ho
              subst ho
              have g11 : (listed.setIfInBounds 0 true).getD 11 false = listed.getD 11 false := getD_set_ne _ (by decide)
              have g12 : (listed.setIfInBounds 0 true).getD 12 false = listed.getD 12 false := getD_set_ne _ (by decide)
              have g14 : (listed.setIfInBounds 0 true).getD 14 false = listed.getD 14 false := getD_set_ne _ (by decide)
              have HVB := Lib.hid hvb
              clear hi hdep hvb
              refine vf_wpOpP_of rfl rfl ?_
              go_simp
              exact hK _ _ ⟨(.pointer (some ⟨wo.heap.size, 0, none⟩)), _, _, _, _, _, _, _, _, _, _, _, _, _, rfl, by simpa using hsz, fun _ => rfl, fun h => by first | exact f1 (vf_listed_ne (by decide) h) | rfl, fun h => by first | exact f2 (vf_listed_ne (by decide) h) | rfl, fun h => by first | exact f3 (vf_listed_ne (by decide) h) | rfl, fun h => by first | exact f4 (vf_listed_ne (by decide) h) | rfl, fun h => by first | exact f5 (vf_listed_ne (by decide) h) | rfl, fun h => by first | exact f6 (vf_listed_ne (by decide) h) | rfl, fun h => by first | exact f7 (vf_listed_ne (by decide) h) | rfl, fun h => by first | exact f8 (vf_listed_ne (by decide) h) | rfl, fun h => by first | exact f9 (vf_listed_ne (by decide) h) | rfl, fun h => by first | exact f10 (vf_listed_ne (by decide) h) | rfl, fun h => by first | exact f13 (vf_listed_ne (by decide) h) | rfl, fun h => vf_listed_keep (o1 (vf_listed_ne (by decide) h)), fun h => vf_listed_keep (o3 (vf_listed_ne (by decide) h)), fun h => vf_listed_keep (o4 (vf_listed_ne (by decide) h)), fun h => vf_listed_keep (o5 (vf_listed_ne (by decide) h)), fun h => by have q := o7 (vf_listed_ne (by decide) h); exact ⟨vf_listed_keep q.1, vf_listed_keep q.2⟩, fun h => vf_listed_keep (o8 (vf_listed_ne (by decide) h)), fun h => vf_listed_keep (o9 (vf_listed_ne (by decide) h)), fun h => vf_listed_keep (o10 (vf_listed_ne (by decide) h)), fun h => vf_listed_keep (o11 (vf_listed_ne (by decide) h)), fun h => by have q := o12 (vf_listed_ne (by decide) h); exact ⟨vf_listed_keep q.1, vf_listed_keep q.2⟩, fun h => by have q := o14 (vf_listed_ne (by decide) h); exact ⟨vf_listed_keep q.1, vf_listed_keep q.2⟩, by rw [g11, g12, g14]; exact HVB.out⟩
            · injection ho with ho
              subst ho
              have d0 := hdep ⟨0, .data⟩ (by simp) rfl
              have g11 : (listed.setIfInBounds 1 true).getD 11 false = listed.getD 11 false := getD_set_ne _ (by decide)
              have g12 : (listed.setIfInBounds 1 true).getD 12 false = listed.getD 12 false := getD_set_ne _ (by decide)
              have g14 : (listed.setIfInBounds 1 true).getD 14 false = listed.getD 14 false := getD_set_ne _ (by decide)
              obtain rfl := f0 d0
              have n14 : listed.getD 14 false = false := by
                cases h : listed.getD 14 false with
                | false => rfl
                | true => have q := (o12 (o14 h).1).1; rw [hno] at q; cases q
              rw [n14] at hvb
              have k1 : w'.cell? ⟨wo.heap.size, 0, none⟩ = some (.slice la j lc) := cell_heap (hvb.box rfl) rfl
              have HVB := Lib.hid hvb
              clear hi hdep hvb
              refine vf_wpOpP_of rfl rfl ?_
              go_simp
              exact hK _ _ ⟨_, (.slice la j lc), _, _, _, _, _, _, _, _, _, _, _, _, rfl, by simpa using hsz, fun h => by first | exact f0 (vf_listed_ne (by decide) h) | rfl, fun _ => rfl, fun h => by first | exact f2 (vf_listed_ne (by decide) h) | rfl, fun h => by first | exact f3 (vf_listed_ne (by decide) h) | rfl, fun h => by first | exact f4 (vf_listed_ne (by decide) h) | rfl, fun h => by first | exact f5 (vf_listed_ne (by decide) h) | rfl, fun h => by first | exact f6 (vf_listed_ne (by decide) h) | rfl, fun h => by first | exact f7 (vf_listed_ne (by decide) h) | rfl, fun h => by first | exact f8 (vf_listed_ne (by decide) h) | rfl, fun h => by first | exact f9 (vf_listed_ne (by decide) h) | rfl, fun h => by first | exact f10 (vf_listed_ne (by decide) h) | rfl, fun h => by first | exact f13 (vf_listed_ne (by decide) h) | rfl, fun _ => vf_listed_keep d0, fun h => vf_listed_keep (o3 (vf_listed_ne (by decide) h)), fun h => vf_listed_keep (o4 (vf_listed_ne (by decide) h)), fun h => vf_listed_keep (o5 (vf_listed_ne (by decide) h)), fun h => by have q := o7 (vf_listed_ne (by decide) h); exact ⟨vf_listed_keep q.1, vf_listed_keep q.2⟩, fun h => vf_listed_keep (o8 (vf_listed_ne (by decide) h)), fun h => vf_listed_keep (o9 (vf_listed_ne (by decide) h)), fun h => vf_listed_keep (o10 (vf_listed_ne (by decide) h)), fun h => vf_listed_keep (o11 (vf_listed_ne (by decide) h)), fun h => by have q := o12 (vf_listed_ne (by decide) h); exact ⟨vf_listed_keep q.1, vf_listed_keep q.2⟩, fun h => by have q := o14 (vf_listed_ne (by decide) h); exact ⟨vf_listed_keep q.1, vf_listed_keep q.2⟩, by rw [g11, g12, g14, n14]; exact HVB.out⟩
            · injection ho with ho
              subst ho
              have g11 : (listed.setIfInBounds 2 true).getD 11 false = listed.getD 11 false := getD_set_ne _ (by decide)
              have g12 : (listed.setIfInBounds 2 true).getD 12 false = listed.getD 12 false := getD_set_ne _ (by decide)
              have g14 : (listed.setIfInBounds 2 true).getD 14 false = listed.getD 14 false := getD_set_ne _ (by decide)
              have HVB := Lib.hid hvb
              clear hi hdep hvb
              refine vf_wpOpP_of rfl rfl ?_
              go_simp
              exact hK _ _ ⟨_, _, (.pointer (some ⟨sb, 0, none⟩)), _, _, _, _, _, _, _, _, _, _, _, rfl, by simpa using hsz, fun h => by first | exact f0 (vf_listed_ne (by decide) h) | rfl, fun h => by first | exact f1 (vf_listed_ne (by decide) h) | rfl, fun _ => rfl, fun h => by first | exact f3 (vf_listed_ne (by decide) h) | rfl, fun h => by first | exact f4 (vf_listed_ne (by decide) h) | rfl, fun h => by first | exact f5 (vf_listed_ne (by decide) h) | rfl, fun h => by first | exact f6 (vf_listed_ne (by decide) h) | rfl, fun h => by first | exact f7 (vf_listed_ne (by decide) h) | rfl, fun h => by first | exact f8 (vf_listed_ne (by decide) h) | rfl, fun h => by first | exact f9 (vf_listed_ne (by decide) h) | rfl, fun h => by first | exact f10 (vf_listed_ne (by decide) h) | rfl, fun h => by first | exact f13 (vf_listed_ne (by decide) h) | rfl, fun h => vf_listed_keep (o1 (vf_listed_ne (by decide) h)), fun h => vf_listed_keep (o3 (vf_listed_ne (by decide) h)), fun h => vf_listed_keep (o4 (vf_listed_ne (by decide) h)), fun h => vf_listed_keep (o5 (vf_listed_ne (by decide) h)), fun h => by have q := o7 (vf_listed_ne (by decide) h); exact ⟨vf_listed_keep q.1, vf_listed_keep q.2⟩, fun h => vf_listed_keep (o8 (vf_listed_ne (by decide) h)), fun h => vf_listed_keep (o9 (vf_listed_ne (by decide) h)), fun h => vf_listed_keep (o10 (vf_listed_ne (by decide) h)), fun h => vf_listed_keep (o11 (vf_listed_ne (by decide) h)), fun h => by have q := o12 (vf_listed_ne (by decide) h); exact ⟨vf_listed_keep q.1, vf_listed_keep q.2⟩, fun h => by have q := o14 (vf_listed_ne (by decide) h); exact ⟨vf_listed_keep q.1, vf_listed_keep q.2⟩, by rw [g11, g12, g14]; exact HVB.out⟩
            · injection ho with ho
              subst ho
              have d2 := hdep ⟨2, .data⟩ (by simp) rfl
              have g11 : (listed.setIfInBounds 3 true).getD 11 false = listed.getD 11 false := getD_set_ne _ (by decide)
              have g12 : (listed.setIfInBounds 3 true).getD 12 false = listed.getD 12 false := getD_set_ne _ (by decide)
              have g14 : (listed.setIfInBounds 3 true).getD 14 false = listed.getD 14 false := getD_set_ne _ (by decide)
              obtain rfl := f2 d2
              have HVB := Lib.hid hvb
              clear hi hdep hvb
              refine vf_wpOpP_of rfl rfl ?_
              go_simp
              exact hK _ _ ⟨_, _, _, (.pointer (some ⟨sb, 0, none⟩)), _, _, _, _, _, _, _, _, _, _, rfl, by simpa using hsz, fun h => by first | exact f0 (vf_listed_ne (by decide) h) | rfl, fun h => by first | exact f1 (vf_listed_ne (by decide) h) | rfl, fun h => by first | exact f2 (vf_listed_ne (by decide) h) | rfl, fun _ => rfl, fun h => by first | exact f4 (vf_listed_ne (by decide) h) | rfl, fun h => by first | exact f5 (vf_listed_ne (by decide) h) | rfl, fun h => by first | exact f6 (vf_listed_ne (by decide) h) | rfl, fun h => by first | exact f7 (vf_listed_ne (by decide) h) | rfl, fun h => by first | exact f8 (vf_listed_ne (by decide) h) | rfl, fun h => by first | exact f9 (vf_listed_ne (by decide) h) | rfl, fun h => by first | exact f10 (vf_listed_ne (by decide) h) | rfl, fun h => by first | exact f13 (vf_listed_ne (by decide) h) | rfl, fun h => vf_listed_keep (o1 (vf_listed_ne (by decide) h)), fun _ => vf_listed_keep d2, fun h => vf_listed_keep (o4 (vf_listed_ne (by decide) h)), fun h => vf_listed_keep (o5 (vf_listed_ne (by decide) h)), fun h => by have q := o7 (vf_listed_ne (by decide) h); exact ⟨vf_listed_keep q.1, vf_listed_keep q.2⟩, fun h => vf_listed_keep (o8 (vf_listed_ne (by decide) h)), fun h => vf_listed_keep (o9 (vf_listed_ne (by decide) h)), fun h => vf_listed_keep (o10 (vf_listed_ne (by decide) h)), fun h => vf_listed_keep (o11 (vf_listed_ne (by decide) h)), fun h => by have q := o12 (vf_listed_ne (by decide) h); exact ⟨vf_listed_keep q.1, vf_listed_keep q.2⟩, fun h => by have q := o14 (vf_listed_ne (by decide) h); exact ⟨vf_listed_keep q.1, vf_listed_keep q.2⟩, by rw [g11, g12, g14]; exact HVB.out⟩
            · injection ho with ho
              subst ho
              have d3 := hdep ⟨3, .data⟩ (by simp) rfl
              have g11 : (listed.setIfInBounds 4 true).getD 11 false = listed.getD 11 false := getD_set_ne _ (by decide)
              have g12 : (listed.setIfInBounds 4 true).getD 12 false = listed.getD 12 false := getD_set_ne _ (by decide)
              have g14 : (listed.setIfInBounds 4 true).getD 14 false = listed.getD 14 false := getD_set_ne _ (by decide)
              obtain rfl := f3 d3
              have HVB := Lib.hid hvb
              clear hi hdep hvb
              refine vf_wpOpP_of rfl rfl ?_
              go_simp
              exact hK _ _ ⟨_, _, _, _, (.pointer (some ⟨sb, 4, none⟩)), _, _, _, _, _, _, _, _, _, rfl, by simpa using hsz, fun h => by first | exact f0 (vf_listed_ne (by decide) h) | rfl, fun h => by first | exact f1 (vf_listed_ne (by decide) h) | rfl, fun h => by first | exact f2 (vf_listed_ne (by decide) h) | rfl, fun h => by first | exact f3 (vf_listed_ne (by decide) h) | rfl, fun _ => rfl, fun h => by first | exact f5 (vf_listed_ne (by decide) h) | rfl, fun h => by first | exact f6 (vf_listed_ne (by decide) h) | rfl, fun h => by first | exact f7 (vf_listed_ne (by decide) h) | rfl, fun h => by first | exact f8 (vf_listed_ne (by decide) h) | rfl, fun h => by first | exact f9 (vf_listed_ne (by decide) h) | rfl, fun h => by first | exact f10 (vf_listed_ne (by decide) h) | rfl, fun h => by first | exact f13 (vf_listed_ne (by decide) h) | rfl, fun h => vf_listed_keep (o1 (vf_listed_ne (by decide) h)), fun h => vf_listed_keep (o3 (vf_listed_ne (by decide) h)), fun _ => vf_listed_keep d3, fun h => vf_listed_keep (o5 (vf_listed_ne (by decide) h)), fun h => by have q := o7 (vf_listed_ne (by decide) h); exact ⟨vf_listed_keep q.1, vf_listed_keep q.2⟩, fun h => vf_listed_keep (o8 (vf_listed_ne (by decide) h)), fun h => vf_listed_keep (o9 (vf_listed_ne (by decide) h)), fun h => vf_listed_keep (o10 (vf_listed_ne (by decide) h)), fun h => vf_listed_keep (o11 (vf_listed_ne (by decide) h)), fun h => by have q := o12 (vf_listed_ne (by decide) h); exact ⟨vf_listed_keep q.1, vf_listed_keep q.2⟩, fun h => by have q := o14 (vf_listed_ne (by decide) h); exact ⟨vf_listed_keep q.1, vf_listed_keep q.2⟩, by rw [g11, g12, g14]; exact HVB.out⟩
            · injection ho with ho
              subst ho
              have d4 := hdep ⟨4, .data⟩ (by simp) rfl
              have g11 : (listed.setIfInBounds 5 true).getD 11 false = listed.getD 11 false := getD_set_ne _ (by decide)
              have g12 : (listed.setIfInBounds 5 true).getD 12 false = listed.getD 12 false := getD_set_ne _ (by decide)
              have g14 : (listed.setIfInBounds 5 true).getD 14 false = listed.getD 14 false := getD_set_ne _ (by decide)
              obtain rfl := f4 d4
              have n12 : listed.getD 12 false = false := by
                cases h : listed.getD 12 false with
                | false => rfl
                | true => have q := (o7 (o8 (o9 (o10 (o11 (o12 h).2))))).1; rw [hno] at q; cases q
              rw [n12] at hvb
              have k5 := keepB (hvb.pre rfl).2.1 HC5.out
              have HVB := Lib.hid hvb
              clear hi hdep hvb
              refine vf_wpOpP_of rfl rfl ?_
              go_simp
              exact hK _ _ ⟨_, _, _, _, _, (.slice (some ⟨bb, boff, none⟩) n sc), _, _, _, _, _, _, _, _, rfl, by simpa using hsz, fun h => by first | exact f0 (vf_listed_ne (by decide) h) | rfl, fun h => by first | exact f1 (vf_listed_ne (by decide) h) | rfl, fun h => by first | exact f2 (vf_listed_ne (by decide) h) | rfl, fun h => by first | exact f3 (vf_listed_ne (by decide) h) | rfl, fun h => by first | exact f4 (vf_listed_ne (by decide) h) | rfl, fun _ => rfl, fun h => by first | exact f6 (vf_listed_ne (by decide) h) | rfl, fun h => by first | exact f7 (vf_listed_ne (by decide) h) | rfl, fun h => by first | exact f8 (vf_listed_ne (by decide) h) | rfl, fun h => by first | exact f9 (vf_listed_ne (by decide) h) | rfl, fun h => by first | exact f10 (vf_listed_ne (by decide) h) | rfl, fun h => by first | exact f13 (vf_listed_ne (by decide) h) | rfl, fun h => vf_listed_keep (o1 (vf_listed_ne (by decide) h)), fun h => vf_listed_keep (o3 (vf_listed_ne (by decide) h)), fun h => vf_listed_keep (o4 (vf_listed_ne (by decide) h)), fun _ => vf_listed_keep d4, fun h => by have q := o7 (vf_listed_ne (by decide) h); exact ⟨vf_listed_keep q.1, vf_listed_keep q.2⟩, fun h => vf_listed_keep (o8 (vf_listed_ne (by decide) h)), fun h => vf_listed_keep (o9 (vf_listed_ne (by decide) h)), fun h => vf_listed_keep (o10 (vf_listed_ne (by decide) h)), fun h => vf_listed_keep (o11 (vf_listed_ne (by decide) h)), fun h => by have q := o12 (vf_listed_ne (by decide) h); exact ⟨vf_listed_keep q.1, vf_listed_keep q.2⟩, fun h => by have q := o14 (vf_listed_ne (by decide) h); exact ⟨vf_listed_keep q.1, vf_listed_keep q.2⟩, by rw [g11, g12, g14, n12]; exact HVB.out⟩
            · injection ho with ho
              subst ho
              have g11 : (listed.setIfInBounds 6 true).getD 11 false = listed.getD 11 false := getD_set_ne _ (by decide)
              have g12 : (listed.setIfInBounds 6 true).getD 12 false = listed.getD 12 false := getD_set_ne _ (by decide)
              have g14 : (listed.setIfInBounds 6 true).getD 14 false = listed.getD 14 false := getD_set_ne _ (by decide)
              have HVB := Lib.hid hvb
              clear hi hdep hvb
              refine vf_wpOpP_of rfl rfl ?_
              go_simp
              exact hK _ _ ⟨_, _, _, _, _, _, (.int .i64 (ii : Int)), _, _, _, _, _, _, _, rfl, by simpa using hsz, fun h => by first | exact f0 (vf_listed_ne (by decide) h) | rfl, fun h => by first | exact f1 (vf_listed_ne (by decide) h) | rfl, fun h => by first | exact f2 (vf_listed_ne (by decide) h) | rfl, fun h => by first | exact f3 (vf_listed_ne (by decide) h) | rfl, fun h => by first | exact f4 (vf_listed_ne (by decide) h) | rfl, fun h => by first | exact f5 (vf_listed_ne (by decide) h) | rfl, fun _ => rfl, fun h => by first | exact f7 (vf_listed_ne (by decide) h) | rfl, fun h => by first | exact f8 (vf_listed_ne (by decide) h) | rfl, fun h => by first | exact f9 (vf_listed_ne (by decide) h) | rfl, fun h => by first | exact f10 (vf_listed_ne (by decide) h) | rfl, fun h => by first | exact f13 (vf_listed_ne (by decide) h) | rfl, fun h => vf_listed_keep (o1 (vf_listed_ne (by decide) h)), fun h => vf_listed_keep (o3 (vf_listed_ne (by decide) h)), fun h => vf_listed_keep (o4 (vf_listed_ne (by decide) h)), fun h => vf_listed_keep (o5 (vf_listed_ne (by decide) h)), fun h => by have q := o7 (vf_listed_ne (by decide) h); exact ⟨vf_listed_keep q.1, vf_listed_keep q.2⟩, fun h => vf_listed_keep (o8 (vf_listed_ne (by decide) h)), fun h => vf_listed_keep (o9 (vf_listed_ne (by decide) h)), fun h => vf_listed_keep (o10 (vf_listed_ne (by decide) h)), fun h => vf_listed_keep (o11 (vf_listed_ne (by decide) h)), fun h => by have q := o12 (vf_listed_ne (by decide) h); exact ⟨vf_listed_keep q.1, vf_listed_keep q.2⟩, fun h => by have q := o14 (vf_listed_ne (by decide) h); exact ⟨vf_listed_keep q.1, vf_listed_keep q.2⟩, by rw [g11, g12, g14]; exact HVB.out⟩
            · injection ho with ho
              subst ho
              have d5 := hdep ⟨5, .data⟩ (by simp) rfl
              have d6 := hdep ⟨6, .data⟩ (by simp) rfl
              have g11 : (listed.setIfInBounds 7 true).getD 11 false = listed.getD 11 false := getD_set_ne _ (by decide)
              have g12 : (listed.setIfInBounds 7 true).getD 12 false = listed.getD 12 false := getD_set_ne _ (by decide)
              have g14 : (listed.setIfInBounds 7 true).getD 14 false = listed.getD 14 false := getD_set_ne _ (by decide)
              obtain rfl := f5 d5
              obtain rfl := f6 d6
              have HVB := Lib.hid hvb
              clear hi hdep hvb
              refine vf_wpOpP_of rfl rfl ?_
              go_simp
              exact hK _ _ ⟨_, _, _, _, _, _, _, (.pointer (some ⟨bb, boff + ii * 5, none⟩)), _, _, _, _, _, _, rfl, by simpa using hsz, fun h => by first | exact f0 (vf_listed_ne (by decide) h) | rfl, fun h => by first | exact f1 (vf_listed_ne (by decide) h) | rfl, fun h => by first | exact f2 (vf_listed_ne (by decide) h) | rfl, fun h => by first | exact f3 (vf_listed_ne (by decide) h) | rfl, fun h => by first | exact f4 (vf_listed_ne (by decide) h) | rfl, fun h => by first | exact f5 (vf_listed_ne (by decide) h) | rfl, fun h => by first | exact f6 (vf_listed_ne (by decide) h) | rfl, fun _ => rfl, fun h => by first | exact f8 (vf_listed_ne (by decide) h) | rfl, fun h => by first | exact f9 (vf_listed_ne (by decide) h) | rfl, fun h => by first | exact f10 (vf_listed_ne (by decide) h) | rfl, fun h => by first | exact f13 (vf_listed_ne (by decide) h) | rfl, fun h => vf_listed_keep (o1 (vf_listed_ne (by decide) h)), fun h => vf_listed_keep (o3 (vf_listed_ne (by decide) h)), fun h => vf_listed_keep (o4 (vf_listed_ne (by decide) h)), fun h => vf_listed_keep (o5 (vf_listed_ne (by decide) h)), fun _ => ⟨vf_listed_keep d5, vf_listed_keep d6⟩, fun h => vf_listed_keep (o8 (vf_listed_ne (by decide) h)), fun h => vf_listed_keep (o9 (vf_listed_ne (by decide) h)), fun h => vf_listed_keep (o10 (vf_listed_ne (by decide) h)), fun h => vf_listed_keep (o11 (vf_listed_ne (by decide) h)), fun h => by have q := o12 (vf_listed_ne (by decide) h); exact ⟨vf_listed_keep q.1, vf_listed_keep q.2⟩, fun h => by have q := o14 (vf_listed_ne (by decide) h); exact ⟨vf_listed_keep q.1, vf_listed_keep q.2⟩, by rw [g11, g12, g14]; exact HVB.out⟩
            · injection ho with ho
              subst ho
              have d7 := hdep ⟨7, .data⟩ (by simp) rfl
              have g11 : (listed.setIfInBounds 8 true).getD 11 false = listed.getD 11 false := getD_set_ne _ (by decide)
              have g12 : (listed.setIfInBounds 8 true).getD 12 false = listed.getD 12 false := getD_set_ne _ (by decide)
              have g14 : (listed.setIfInBounds 8 true).getD 14 false = listed.getD 14 false := getD_set_ne _ (by decide)
              obtain rfl := f7 d7
              have HVB := Lib.hid hvb
              clear hi hdep hvb
              refine vf_wpOpP_of rfl rfl ?_
              go_simp
              exact hK _ _ ⟨_, _, _, _, _, _, _, _, (.pointer (some ⟨bb, boff + ii * 5 + 3, none⟩)), _, _, _, _, _, rfl, by simpa using hsz, fun h => by first | exact f0 (vf_listed_ne (by decide) h) | rfl, fun h => by first | exact f1 (vf_listed_ne (by decide) h) | rfl, fun h => by first | exact f2 (vf_listed_ne (by decide) h) | rfl, fun h => by first | exact f3 (vf_listed_ne (by decide) h) | rfl, fun h => by first | exact f4 (vf_listed_ne (by decide) h) | rfl, fun h => by first | exact f5 (vf_listed_ne (by decide) h) | rfl, fun h => by first | exact f6 (vf_listed_ne (by decide) h) | rfl, fun h => by first | exact f7 (vf_listed_ne (by decide) h) | rfl, fun _ => rfl, fun h => by first | exact f9 (vf_listed_ne (by decide) h) | rfl, fun h => by first | exact f10 (vf_listed_ne (by decide) h) | rfl, fun h => by first | exact f13 (vf_listed_ne (by decide) h) | rfl, fun h => vf_listed_keep (o1 (vf_listed_ne (by decide) h)), fun h => vf_listed_keep (o3 (vf_listed_ne (by decide) h)), fun h => vf_listed_keep (o4 (vf_listed_ne (by decide) h)), fun h => vf_listed_keep (o5 (vf_listed_ne (by decide) h)), fun h => by have q := o7 (vf_listed_ne (by decide) h); exact ⟨vf_listed_keep q.1, vf_listed_keep q.2⟩, fun _ => vf_listed_keep d7, fun h => vf_listed_keep (o9 (vf_listed_ne (by decide) h)), fun h => vf_listed_keep (o10 (vf_listed_ne (by decide) h)), fun h => vf_listed_keep (o11 (vf_listed_ne (by decide) h)), fun h => by have q := o12 (vf_listed_ne (by decide) h); exact ⟨vf_listed_keep q.1, vf_listed_keep q.2⟩, fun h => by have q := o14 (vf_listed_ne (by decide) h); exact ⟨vf_listed_keep q.1, vf_listed_keep q.2⟩, by rw [g11, g12, g14]; exact HVB.out⟩
            · injection ho with ho
              subst ho
              have d8 := hdep ⟨8, .data⟩ (by simp) rfl
              have g11 : (listed.setIfInBounds 9 true).getD 11 false = listed.getD 11 false := getD_set_ne _ (by decide)
              have g12 : (listed.setIfInBounds 9 true).getD 12 false = listed.getD 12 false := getD_set_ne _ (by decide)
              have g14 : (listed.setIfInBounds 9 true).getD 14 false = listed.getD 14 false := getD_set_ne _ (by decide)
              obtain rfl := f8 d8
              have n12 : listed.getD 12 false = false := by
                cases h : listed.getD 12 false with
                | false => rfl
                | true => have q := (o10 (o11 (o12 h).2)); rw [hno] at q; cases q
              rw [n12] at hvb
              have k9 := keepB (hvb.pre rfl).2.1 HK3.out
              have HVB := Lib.hid hvb
              clear hi hdep hvb
              refine vf_wpOpP_of rfl rfl ?_
              go_simp
              exact hK _ _ ⟨_, _, _, _, _, _, _, _, _, (.int .i64 a), _, _, _, _, rfl, by simpa using hsz, fun h => by first | exact f0 (vf_listed_ne (by decide) h) | rfl, fun h => by first | exact f1 (vf_listed_ne (by decide) h) | rfl, fun h => by first | exact f2 (vf_listed_ne (by decide) h) | rfl, fun h => by first | exact f3 (vf_listed_ne (by decide) h) | rfl, fun h => by first | exact f4 (vf_listed_ne (by decide) h) | rfl, fun h => by first | exact f5 (vf_listed_ne (by decide) h) | rfl, fun h => by first | exact f6 (vf_listed_ne (by decide) h) | rfl, fun h => by first | exact f7 (vf_listed_ne (by decide) h) | rfl, fun h => by first | exact f8 (vf_listed_ne (by decide) h) | rfl, fun _ => rfl, fun h => by first | exact f10 (vf_listed_ne (by decide) h) | rfl, fun h => by first | exact f13 (vf_listed_ne (by decide) h) | rfl, fun h => vf_listed_keep (o1 (vf_listed_ne (by decide) h)), fun h => vf_listed_keep (o3 (vf_listed_ne (by decide) h)), fun h => vf_listed_keep (o4 (vf_listed_ne (by decide) h)), fun h => vf_listed_keep (o5 (vf_listed_ne (by decide) h)), fun h => by have q := o7 (vf_listed_ne (by decide) h); exact ⟨vf_listed_keep q.1, vf_listed_keep q.2⟩, fun h => vf_listed_keep (o8 (vf_listed_ne (by decide) h)), fun _ => vf_listed_keep d8, fun h => vf_listed_keep (o10 (vf_listed_ne (by decide) h)), fun h => vf_listed_keep (o11 (vf_listed_ne (by decide) h)), fun h => by have q := o12 (vf_listed_ne (by decide) h); exact ⟨vf_listed_keep q.1, vf_listed_keep q.2⟩, fun h => by have q := o14 (vf_listed_ne (by decide) h); exact ⟨vf_listed_keep q.1, vf_listed_keep q.2⟩, by rw [g11, g12, g14, n12]; exact HVB.out⟩
            · injection ho with ho
              subst ho
              have d9 := hdep ⟨9, .data⟩ (by simp) rfl
              have g11 : (listed.setIfInBounds 10 true).getD 11 false = listed.getD 11 false := getD_set_ne _ (by decide)
              have g12 : (listed.setIfInBounds 10 true).getD 12 false = listed.getD 12 false := getD_set_ne _ (by decide)
              have g14 : (listed.setIfInBounds 10 true).getD 14 false = listed.getD 14 false := getD_set_ne _ (by decide)
              obtain rfl := f9 d9
              have HVB := Lib.hid hvb
              clear hi hdep hvb
              refine vf_wpOpP_of rfl rfl ?_
              go_simp
              exact hK _ _ ⟨_, _, _, _, _, _, _, _, _, _, (.int .i64 (a / 1000)), _, _, _, rfl, by simpa using hsz, fun h => by first | exact f0 (vf_listed_ne (by decide) h) | rfl, fun h => by first | exact f1 (vf_listed_ne (by decide) h) | rfl, fun h => by first | exact f2 (vf_listed_ne (by decide) h) | rfl, fun h => by first | exact f3 (vf_listed_ne (by decide) h) | rfl, fun h => by first | exact f4 (vf_listed_ne (by decide) h) | rfl, fun h => by first | exact f5 (vf_listed_ne (by decide) h) | rfl, fun h => by first | exact f6 (vf_listed_ne (by decide) h) | rfl, fun h => by first | exact f7 (vf_listed_ne (by decide) h) | rfl, fun h => by first | exact f8 (vf_listed_ne (by decide) h) | rfl, fun h => by first | exact f9 (vf_listed_ne (by decide) h) | rfl, fun _ => rfl, fun h => by first | exact f13 (vf_listed_ne (by decide) h) | rfl, fun h => vf_listed_keep (o1 (vf_listed_ne (by decide) h)), fun h => vf_listed_keep (o3 (vf_listed_ne (by decide) h)), fun h => vf_listed_keep (o4 (vf_listed_ne (by decide) h)), fun h => vf_listed_keep (o5 (vf_listed_ne (by decide) h)), fun h => by have q := o7 (vf_listed_ne (by decide) h); exact ⟨vf_listed_keep q.1, vf_listed_keep q.2⟩, fun h => vf_listed_keep (o8 (vf_listed_ne (by decide) h)), fun h => vf_listed_keep (o9 (vf_listed_ne (by decide) h)), fun _ => vf_listed_keep d9, fun h => vf_listed_keep (o11 (vf_listed_ne (by decide) h)), fun h => by have q := o12 (vf_listed_ne (by decide) h); exact ⟨vf_listed_keep q.1, vf_listed_keep q.2⟩, fun h => by have q := o14 (vf_listed_ne (by decide) h); exact ⟨vf_listed_keep q.1, vf_listed_keep q.2⟩, by rw [g11, g12, g14]; exact HVB.out⟩
            · injection ho with ho
              subst ho
              have d10 := hdep ⟨10, .data⟩ (by simp) rfl
              have g11 : (listed.setIfInBounds 11 true).getD 11 false = true := hself
              have g12 : (listed.setIfInBounds 11 true).getD 12 false = listed.getD 12 false := getD_set_ne _ (by decide)
              have g14 : (listed.setIfInBounds 11 true).getD 14 false = listed.getD 14 false := getD_set_ne _ (by decide)
              obtain rfl := f10 d10
              have n12 : listed.getD 12 false = false := by
                cases h : listed.getD 12 false with
                | false => rfl
                | true => have q := (o12 h).2; rw [hno] at q; cases q
              rw [n12, hno] at hvb
              have HVB := Lib.hid hvb
              clear hi hdep hvb
              refine vf_wpOpP_of rfl rfl ?_
              go_simp
              exact hK _ _ ⟨_, _, _, _, _, _, _, _, _, _, _, _, _, _, rfl, by simpa using hsz, fun h => by first | exact f0 (vf_listed_ne (by decide) h) | rfl, fun h => by first | exact f1 (vf_listed_ne (by decide) h) | rfl, fun h => by first | exact f2 (vf_listed_ne (by decide) h) | rfl, fun h => by first | exact f3 (vf_listed_ne (by decide) h) | rfl, fun h => by first | exact f4 (vf_listed_ne (by decide) h) | rfl, fun h => by first | exact f5 (vf_listed_ne (by decide) h) | rfl, fun h => by first | exact f6 (vf_listed_ne (by decide) h) | rfl, fun h => by first | exact f7 (vf_listed_ne (by decide) h) | rfl, fun h => by first | exact f8 (vf_listed_ne (by decide) h) | rfl, fun h => by first | exact f9 (vf_listed_ne (by decide) h) | rfl, fun h => by first | exact f10 (vf_listed_ne (by decide) h) | rfl, fun h => by first | exact f13 (vf_listed_ne (by decide) h) | rfl, fun h => vf_listed_keep (o1 (vf_listed_ne (by decide) h)), fun h => vf_listed_keep (o3 (vf_listed_ne (by decide) h)), fun h => vf_listed_keep (o4 (vf_listed_ne (by decide) h)), fun h => vf_listed_keep (o5 (vf_listed_ne (by decide) h)), fun h => by have q := o7 (vf_listed_ne (by decide) h); exact ⟨vf_listed_keep q.1, vf_listed_keep q.2⟩, fun h => vf_listed_keep (o8 (vf_listed_ne (by decide) h)), fun h => vf_listed_keep (o9 (vf_listed_ne (by decide) h)), fun h => vf_listed_keep (o10 (vf_listed_ne (by decide) h)), fun _ => vf_listed_keep d10, fun h => by have q := o12 (vf_listed_ne (by decide) h); exact ⟨vf_listed_keep q.1, vf_listed_keep q.2⟩, fun h => by have q := o14 (vf_listed_ne (by decide) h); exact ⟨vf_listed_keep q.1, vf_listed_keep q.2⟩, by rw [g11, g12, g14, n12]; exact HVB.out.built⟩
            · injection ho with ho
              subst ho
              have d1 := hdep ⟨1, .data⟩ (by simp) rfl
              have d11 := hdep ⟨11, .data⟩ (by simp) rfl
              have g11 : (listed.setIfInBounds 12 true).getD 11 false = listed.getD 11 false := getD_set_ne _ (by decide)
              have g12 : (listed.setIfInBounds 12 true).getD 12 false = true := hself
              have g14 : (listed.setIfInBounds 12 true).getD 14 false = listed.getD 14 false := getD_set_ne _ (by decide)
              obtain rfl := f1 d1
              have n14 : listed.getD 14 false = false := by
                cases h : listed.getD 14 false with
                | false => rfl
                | true => have q := (o14 h).1; rw [hno] at q; cases q
              rw [n14, d11, hno] at hvb
              obtain ⟨v9, w9, hrun9, hvb9⟩ := hvb.appd HLO.out (by omega) (by have := HXL.out; omega) 22
              refine vf_wpOpP_of rfl rfl ?_
              refine wp_append_run (.tmp 31) (.tmp 41) 22 22 rfl _ _ rfl rfl hrun9 ?_
              exact hK _ _ ⟨_, _, _, _, _, _, _, _, _, _, _, _, (v9), _, rfl, by simpa using hsz, fun h => by first | exact f0 (vf_listed_ne (by decide) h) | rfl, fun h => by first | exact f1 (vf_listed_ne (by decide) h) | rfl, fun h => by first | exact f2 (vf_listed_ne (by decide) h) | rfl, fun h => by first | exact f3 (vf_listed_ne (by decide) h) | rfl, fun h => by first | exact f4 (vf_listed_ne (by decide) h) | rfl, fun h => by first | exact f5 (vf_listed_ne (by decide) h) | rfl, fun h => by first | exact f6 (vf_listed_ne (by decide) h) | rfl, fun h => by first | exact f7 (vf_listed_ne (by decide) h) | rfl, fun h => by first | exact f8 (vf_listed_ne (by decide) h) | rfl, fun h => by first | exact f9 (vf_listed_ne (by decide) h) | rfl, fun h => by first | exact f10 (vf_listed_ne (by decide) h) | rfl, fun h => by first | exact f13 (vf_listed_ne (by decide) h) | rfl, fun h => vf_listed_keep (o1 (vf_listed_ne (by decide) h)), fun h => vf_listed_keep (o3 (vf_listed_ne (by decide) h)), fun h => vf_listed_keep (o4 (vf_listed_ne (by decide) h)), fun h => vf_listed_keep (o5 (vf_listed_ne (by decide) h)), fun h => by have q := o7 (vf_listed_ne (by decide) h); exact ⟨vf_listed_keep q.1, vf_listed_keep q.2⟩, fun h => vf_listed_keep (o8 (vf_listed_ne (by decide) h)), fun h => vf_listed_keep (o9 (vf_listed_ne (by decide) h)), fun h => vf_listed_keep (o10 (vf_listed_ne (by decide) h)), fun h => vf_listed_keep (o11 (vf_listed_ne (by decide) h)), fun _ => ⟨vf_listed_keep d1, vf_listed_keep d11⟩, fun h => by have q := o14 (vf_listed_ne (by decide) h); exact ⟨vf_listed_keep q.1, vf_listed_keep q.2⟩, by rw [g11, g12, g14, n14, d11]; exact hvb9⟩
            · injection ho with ho
              subst ho
              have g11 : (listed.setIfInBounds 13 true).getD 11 false = listed.getD 11 false := getD_set_ne _ (by decide)
              have g12 : (listed.setIfInBounds 13 true).getD 12 false = listed.getD 12 false := getD_set_ne _ (by decide)
              have g14 : (listed.setIfInBounds 13 true).getD 14 false = listed.getD 14 false := getD_set_ne _ (by decide)
              have HVB := Lib.hid hvb
              clear hi hdep hvb
              refine vf_wpOpP_of rfl rfl ?_
              go_simp
              exact hK _ _ ⟨_, _, _, _, _, _, _, _, _, _, _, _, _, (.pointer (some ⟨wo.heap.size, 0, none⟩)), rfl, by simpa using hsz, fun h => by first | exact f0 (vf_listed_ne (by decide) h) | rfl, fun h => by first | exact f1 (vf_listed_ne (by decide) h) | rfl, fun h => by first | exact f2 (vf_listed_ne (by decide) h) | rfl, fun h => by first | exact f3 (vf_listed_ne (by decide) h) | rfl, fun h => by first | exact f4 (vf_listed_ne (by decide) h) | rfl, fun h => by first | exact f5 (vf_listed_ne (by decide) h) | rfl, fun h => by first | exact f6 (vf_listed_ne (by decide) h) | rfl, fun h => by first | exact f7 (vf_listed_ne (by decide) h) | rfl, fun h => by first | exact f8 (vf_listed_ne (by decide) h) | rfl, fun h => by first | exact f9 (vf_listed_ne (by decide) h) | rfl, fun h => by first | exact f10 (vf_listed_ne (by decide) h) | rfl, fun _ => rfl, fun h => vf_listed_keep (o1 (vf_listed_ne (by decide) h)), fun h => vf_listed_keep (o3 (vf_listed_ne (by decide) h)), fun h => vf_listed_keep (o4 (vf_listed_ne (by decide) h)), fun h => vf_listed_keep (o5 (vf_listed_ne (by decide) h)), fun h => by have q := o7 (vf_listed_ne (by decide) h); exact ⟨vf_listed_keep q.1, vf_listed_keep q.2⟩, fun h => vf_listed_keep (o8 (vf_listed_ne (by decide) h)), fun h => vf_listed_keep (o9 (vf_listed_ne (by decide) h)), fun h => vf_listed_keep (o10 (vf_listed_ne (by decide) h)), fun h => vf_listed_keep (o11 (vf_listed_ne (by decide) h)), fun h => by have q := o12 (vf_listed_ne (by decide) h); exact ⟨vf_listed_keep q.1, vf_listed_keep q.2⟩, fun h => by have q := o14 (vf_listed_ne (by decide) h); exact ⟨vf_listed_keep q.1, vf_listed_keep q.2⟩, by rw [g11, g12, g14]; exact HVB.out⟩
            · injection ho with ho
              subst ho
              have d12 := hdep ⟨12, .data⟩ (by simp) rfl
              have d13 := hdep ⟨13, .data⟩ (by simp) rfl
              have g11 : (listed.setIfInBounds 14 true).getD 11 false = listed.getD 11 false := getD_set_ne _ (by decide)
              have g12 : (listed.setIfInBounds 14 true).getD 12 false = listed.getD 12 false := getD_set_ne _ (by decide)
              have g14 : (listed.setIfInBounds 14 true).getD 14 false = true := hself
              obtain rfl := f13 d13
              have d11 := (o12 d12).2
              rw [d12, d11, hno] at hvb
              obtain ⟨va, vc, rfl⟩ := own_sl (hvb.app rfl rfl).2
              have k14 : w'.cell? ⟨wo.heap.size, 0, none⟩ = some (.slice la j lc) := cell_heap (hvb.box rfl) rfl
              have kf : w'.frozen? ⟨wo.heap.size, 0, none⟩ = false := frozen_of_row w' _ _ _ _ (hvb.box rfl)
              have kz : wo.heap.size < w'.heap.size := (Array.getElem?_eq_some_iff.1 (hvb.box rfl)).1
              have HVB := Lib.hid hvb
              clear hi hdep hvb
              refine vf_wpOpP_of rfl rfl ?_
              go_simp
              exact hK _ _ ⟨_, _, _, _, _, _, _, _, _, _, _, _, _, _, rfl, by simpa using hsz, fun h => by first | exact f0 (vf_listed_ne (by decide) h) | rfl, fun h => by first | exact f1 (vf_listed_ne (by decide) h) | rfl, fun h => by first | exact f2 (vf_listed_ne (by decide) h) | rfl, fun h => by first | exact f3 (vf_listed_ne (by decide) h) | rfl, fun h => by first | exact f4 (vf_listed_ne (by decide) h) | rfl, fun h => by first | exact f5 (vf_listed_ne (by decide) h) | rfl, fun h => by first | exact f6 (vf_listed_ne (by decide) h) | rfl, fun h => by first | exact f7 (vf_listed_ne (by decide) h) | rfl, fun h => by first | exact f8 (vf_listed_ne (by decide) h) | rfl, fun h => by first | exact f9 (vf_listed_ne (by decide) h) | rfl, fun h => by first | exact f10 (vf_listed_ne (by decide) h) | rfl, fun h => by first | exact f13 (vf_listed_ne (by decide) h) | rfl, fun h => vf_listed_keep (o1 (vf_listed_ne (by decide) h)), fun h => vf_listed_keep (o3 (vf_listed_ne (by decide) h)), fun h => vf_listed_keep (o4 (vf_listed_ne (by decide) h)), fun h => vf_listed_keep (o5 (vf_listed_ne (by decide) h)), fun h => by have q := o7 (vf_listed_ne (by decide) h); exact ⟨vf_listed_keep q.1, vf_listed_keep q.2⟩, fun h => vf_listed_keep (o8 (vf_listed_ne (by decide) h)), fun h => vf_listed_keep (o9 (vf_listed_ne (by decide) h)), fun h => vf_listed_keep (o10 (vf_listed_ne (by decide) h)), fun h => vf_listed_keep (o11 (vf_listed_ne (by decide) h)), fun h => by have q := o12 (vf_listed_ne (by decide) h); exact ⟨vf_listed_keep q.1, vf_listed_keep q.2⟩, fun _ => ⟨vf_listed_keep d12, vf_listed_keep d13⟩, by rw [g11, g12, g14, d12, d11]; exact HVB.out.stored⟩
          case fin =>
            rintro listed a' w' ⟨t30, t31, t32, t33, t34, t35, t36, t37, t38, t39, t40, t41, t42, t43, rfl, hsz, f0, f1, f2, f3, f4, f5, f6, f7, f8, f9, f10, f13, o1, o3, o4, o5, o7, o8, o9, o10, o11, o12, o14, hvb⟩ hr
            have hfull := vf_ready_full hsz hr (by kernel_rfl)
            obtain rfl := f0 (hfull 0 (by decide))
            obtain rfl := f1 (hfull 1 (by decide))
            obtain rfl := f2 (hfull 2 (by decide))
            obtain rfl := f3 (hfull 3 (by decide))
            obtain rfl := f4 (hfull 4 (by decide))
            obtain rfl := f5 (hfull 5 (by decide))
            obtain rfl := f6 (hfull 6 (by decide))
            obtain rfl := f7 (hfull 7 (by decide))
            obtain rfl := f8 (hfull 8 (by decide))
            obtain rfl := f9 (hfull 9 (by decide))
            obtain rfl := f10 (hfull 10 (by decide))
            obtain rfl := f13 (hfull 13 (by decide))
            rw [hfull 11 (by decide), hfull 12 (by decide), hfull 14 (by decide)] at hvb
            clear o1 o3 o4 o5 o7 o8 o9 o10 o11 o12 o14 hfull hr hsz
            obtain ⟨v', hbx', hlo', hsz', q1, q2, q3, hfr⟩ := hvb.fin rfl
            have hbq' : Below wo.heap.size wo w' := ⟨q1.trans HBQ.out.os, q2.trans HBQ.out.tape, q3.trans HBQ.out.output, by have := HBQ.out.size; omega, fun b hb => (hfr b (by omega) (by omega) (fun e => by have := (HLO.out.lt b e.symm).1; omega)).trans (HBQ.out.block b hb)⟩
            rw [HXL.out] at hlo'
            have HBX' := Lib.hid hbx'
            have HLO' := Lib.hid hlo'
            have HBQ' := Lib.hid hbq'
            clear hvb hbx' hlo' hbq' hfr q1 q2 q3
            go_wp2
            go_roundw
            case rel => exact ⟨j + 1, v', by omega, by go_num, HBX'.out, by rw [HTK.out]; exact HLO'.out, HBQ'.out⟩
            case measure => simp [intOf]; omega
        · obtain rfl : il = j := by omega
          rw [show (I.map (lotT S)).take il = I.map (lotT S) from List.take_of_length_le (by rw [List.length_map]; have := HIL.out; omega)] at hlo
          obtain ⟨la, lc, rfl⟩ := own_sl hlo
          have hSl : Sl 1 encI (fun b => w.heap.size ≤ b ∧ some b ≠ u7.ownBlock) wr (.slice la il lc) (I.map (lotT S)) := (Sl.ownI (show wr.ownsRow (wo.heap.size + 1) 3 1 (.slice la il lc) (I.map (lotT S)).length (flatE encI (I.map (lotT S))) by rw [List.length_map, HIL.out]; exact hlo)).mono (fun b hb _ => ⟨by omega, fun e => by have := (HRV.out.lt b e.symm).2; omega⟩)
          have hrow2 : RowsI (fun b => w.heap.size ≤ b ∧ some b ≠ u7.ownBlock) wr us (RR.take k) := ((HROW.out.mono (Q := fun b => (w.heap.size ≤ b ∧ some b ≠ u7.ownBlock) ∧ b < wo.heap.size) (fun b hb hlt => ⟨hb, hlt⟩)).lowG (fun b hb => hb.2) hbq).mono (fun b hb _ => hb.1)
          have HROW2 := Lib.hid (hrow2.snoc hSl)
          have HRV2 := Lib.hid (ownsRow_belowZ HRV.out hbq)
          have HBW2 := Lib.hid (HBR.out.trans (hbq.mono zr))
          have c10 : wr.cell? ⟨wo.heap.size, 0, none⟩ = some (.slice la il lc) := cell_heap hbx rfl
          clear hSl hrow2 hlo hbx hbq
          go_wp2_with (at_builtin; go_must (refine wpList_append_own_at _ rfl _ _ 84 rfl w.heap.size 86 i1 (.agg #[.slice none 0 0]) 1 24 Try.underlying84 hi hz0 hz1 hz2 rfl (by decide) _ _ _ rfl (HRV2.out.alloc _) ⟨_, 0, none⟩ 1 1 (encV (.slice la il lc)) rfl rfl (newsL _ _ _) (by intro u hu; simp only [encV, List.mem_singleton] at hu; subst hu; rfl) (by unfold maxLen; omega) (by omega) (by simp; omega) ?_); intro v' w9 hown' hgrow _ hloc)
          go_roundw
          case rel => exact ⟨k + 1, us ++ [.slice la il lc], by omega, by simp; omega, by go_num, by rw [flatE_snoc, List.length_append]; exact hown', by rw [take_snocZ HRK.out]; exact (HROW2.out.below (bal brefl _)).app hgrow hloc (Nat.le_refl _), (bal HBW2.out _).grown hgrow (by simp; omega) (fun q hq => (HRV2.out.lt q hq).1)⟩
          case measure => simp [intOf]; omega
    · obtain rfl : gn = k := by omega
      rw [show RR.take gn = RR from List.take_of_length_le (by have := HRL.out; omega)] at hrow
      have hSR : SlsI (fun _ => True) wo u7 RR := ⟨us, Sl.own encV_len hrv rfl (fun _ _ => trivial), hrow.mono (fun _ _ _ => trivial)⟩
      have KV := serve_any left (fun _ => True) u7 RR wo hSR HROK.out h0 h1
      rw [HVV.out] at KV
      have HKV := Lib.hid KV
      have HBR := Lib.hid hbr
      clear hSR KV hrow hrv hbr
      go_wp2_with fail
      refine HKV.out.mono ?_
      rintro e w2 ⟨v2, rfl, hV2, hb2⟩
      obtain ⟨va, vn, vc, rfl, hvn, -, -⟩ := hV2.shape
      obtain rfl : vn = gn := by have := HVL.out; omega
      have HV2 := Lib.hid hV2
      have hbw2 := HBR.out.trans (hb2.mono zr)
      have HBW2 := Lib.hid hbw2
      have HO2 := Lib.hid (ownsRow_belowZ HO.out hbw2)
      have HC4 := Lib.hid (keepB hbw2 HC.out.1)
      have HC5 := Lib.hid (keepB hbw2 HC.out.2)
      have HG2 := Lib.hid (HG.out.below hbw2)
      have z2 : wo.heap.size ≤ w2.heap.size := hb2.size
      have hvP : ∀ b, wo.heap.size ≤ b → some b ≠ vG.ownBlock := fun b hb e => by have := (HO.out.lt b e.symm).2; omega
      have HVP := Lib.hid hvP
      have zsb2 : sb < w2.heap.size := by omega
      clear hV2 hb2 hbw2 hvn hvP
      go_wp2
      go_loopw [13, 54] (fun gv iv wq => ∃ k : Nat, k ≤ vn ∧ iv = .int .i64 k ∧ gv = .int .i64 (gnT VV k) ∧ wq.ownsRow bG 3 1 vG G.length (flatE encI (gvT G GG VV k)) ∧ w2.grownBy wq vG.ownBlock) (fun _ iv _ => vn - (intOf iv).toNat)
      case atStart => exact ⟨0, by omega, rfl, rfl, HO2.out, zrefl _ _⟩
      case round =>
        obtain ⟨k, hk2, rfl, rfl, hown, hgq⟩ := hrel
        obtain ⟨wp, hwp⟩ : ∃ u : World, u = wr := ⟨wr, rfl⟩
        subst hwp
        by_cases hlt2 : k < vn
        · obtain ⟨vb, voff, xa, xl, xc, V, rfl, -, hvb, hV, v0, hxl, hSV⟩ := (HV2.out.grown hgq HVP.out).at_ hlt2
          obtain ⟨qb, qoff, ia, il, ic, I, rfl, -, hqb, hI, q0, hil, hSI⟩ := (HG2.out.grown hgq HP.out).at_ hlt2
          have hkz : (k : Int) < (vn : Int) := by omega
          obtain rfl : il = xl := by have := HGR.out k I V hI hV; omega
          have hVm := HVB.out V (List.mem_of_getElem? hV)
          have hil100 : il ≤ 100 := by omega
          obtain ⟨gb0, gb1⟩ := gnT_bd HVB.out k
          have hgs := gnT_succ hV
          have hgv := gvT_succ (G := G) hI hV
          have hiB := HGG.out.i I (List.mem_of_getElem? hI)
          obtain ⟨gk, hgk⟩ : ∃ x, gnT VV k = x := ⟨_, rfl⟩
          obtain ⟨Gk, hGk⟩ : ∃ x, gvT G GG VV k = x := ⟨_, rfl⟩
          have hGl : Gk.length = G.length := by rw [← hGk]; exact gvT_len _ _ _ _
          rw [hgk] at hgs gb0 gb1 ⊢
          rw [hGk] at hgv hown
          have c4w : wp.cell? ⟨sb, 4, none⟩ = some (.slice sa n sc) := (World.cell?_of_block (a := ⟨sb, 4, none⟩) (hgq.block sb zsb2 HSB.out)).trans HC4.out
          have HSI := Lib.hid hSI
          have HSV := Lib.hid hSV
          have HGS := Lib.hid hgs
          have HGV := Lib.hid hgv
          have HIB := Lib.hid hiB
          have HVM := Lib.hid hVm
          have HOW := Lib.hid hown
          have HGQ := Lib.hid hgq
          have HGL := Lib.hid hGl
          have HIL := Lib.hid hil
          have HXL := Lib.hid hxl
          have hgk9 : gk ≤ 10000000000 := by omega
          clear hV hI hSI hSV hgs hgv hiB hVm hown hgq hgk hGk hGl gb1 hil hxl
          go_wp2
          go_loopw [13, 64] (fun gv jv wq => ∃ j : Nat, j ≤ il ∧ jv = .int .i64 j ∧ gv = .int .i64 (gk + sumI (V.take j)) ∧ wq.ownsRow bG 3 1 vG G.length (flatE encI (stT Gk I V j)) ∧ wp.grownBy wq vG.ownBlock) (fun _ jv _ => il - (intOf jv).toNat)
          case atStart => exact ⟨0, by omega, rfl, by simp [sumI], HOW.out, zrefl _ _⟩
          case round =>
            obtain ⟨j, hj, rfl, rfl, hown, hgq⟩ := hrel
            by_cases hjl : j < il
            · obtain ⟨ib, ioff, i, rfl, hiP, hib, hi', i0⟩ := (HSI.out.block hgq.size (fun b hb hlt => hgq.block b hlt (HP.out b hb))).int hjl
              obtain ⟨xb, xoff, x, rfl, hxP, hxb, hx', x0⟩ := (HSV.out.block hgq.size (fun b hb hlt => hgq.block b hlt (HVP.out b hb))).int hjl
              have hjz : (j : Int) < (il : Int) := by omega
              obtain ⟨hi0, hi1'⟩ := HIB.out i (List.mem_of_getElem? hi')
              obtain ⟨ii, rfl⟩ : ∃ m : Nat, i = (m : Int) := ⟨i.toNat, by omega⟩
              obtain ⟨xx0, xx1⟩ := HVM.out.2 x (List.mem_of_getElem? hx')
              have hiin : ii < G.length := by have := HLEN.out; omega
              have hiz : (ii : Int) < (G.length : Int) := by omega
              obtain ⟨p0, p1⟩ := sumI_bd (r := V.take j) (by rw [List.length_take]; omega) (fun y hy => HVM.out.2 y (List.mem_of_mem_take hy))
              have hsn := sumI_snoc hx'
              obtain ⟨s, hs⟩ : ∃ s, sumI (V.take j) = s := ⟨_, rfl⟩
              rw [hs] at hsn p0 p1 ⊢
              have hst := stT_succ (G := Gk) hi' hx'
              rw [Int.toNat_natCast] at hst
              have hGj := stT_len Gk I V j
              obtain ⟨Gj, hGjj⟩ : ∃ g, stT Gk I V j = g := ⟨_, rfl⟩
              rw [hGjj] at hst hGj hown
              obtain ⟨gG, cap, rest, rfl, -, -, -, -, -, -⟩ := own_whole hown (by omega)
              have hrz : RowZ 3 1 encI bG gG G.length cap Gj wr := ⟨hown, by rw [hGj]; exact HGL.out⟩
              obtain ⟨y, hy⟩ : ∃ y, Gj[ii]? = some y := ⟨_, List.getElem?_eq_getElem (by rw [hGj, HGL.out]; exact hiin)⟩
              have c9 := hrz.cell encI_len (i := 0) hy rfl
              simp only [Nat.mul_one, Nat.add_zero] at c9
              have f9 := hrz.fro ii
              have c5w : wr.cell? ⟨sb, 5, none⟩ = some (.slice (some ⟨gG, 0, none⟩) G.length cap) := (World.cell?_of_block (a := ⟨sb, 5, none⟩) ((hgq.block sb (by have := HGQ.out.size; omega) HSB.out).trans (HGQ.out.block sb zsb2 HSB.out))).trans HC5.out
              have hst2 := World.ownsRow.stored hown ii (.int .i64 x)
              rw [flatI_set] at hst2
              have hne : ¬ xb = gG := fun e => HVP.out xb hxP (by rw [e]; rfl)
              have hne2 : ¬ gG = xb := fun e => hne e.symm
              have hw1 : wrap64 (gk + s + x) = gk + s + x := IntWalk.wrap64_in _ (by omega)
              have hw2 : IntKind.i64.wrap (gk + s + x) = gk + s + x := IntWalk.i64_in _ (by omega)
              have zgG : gG < wr.heap.size := World.block_lt_of_cell? _ _ c9
              have HSN := Lib.hid hsn
              have HST := Lib.hid hst
              have HS2 := Lib.hid hst2
              have HGW := Lib.hid hgq
              have c5n : ∀ n, (wr.drewN n).cell? ⟨sb, 5, none⟩ = some (.slice (some ⟨gG, 0, none⟩) G.length cap) := fun _ => c5w
              have x0n : ∀ n, (wr.drewN n).cell? ⟨xb, xoff + j, none⟩ = some (.int .i64 x) := fun _ => x0
              clear hi' hx' hsn hst hst2 hgq hown hrz hGj hGjj hs hy
              go_upto_region 20 with fail
              go_region
              go_wp2
              go_roundw
              case rel => exact ⟨j + 1, by omega, by go_num, by rw [HSN.out, Int.add_assoc], by rw [HST.out]; exact ownsRow_belowZ HS2.out.1 (bdr brefl), ztrans HGW.out (ztrans HS2.out.2 (zbelow (bdr brefl) _))⟩
              case measure => simp [intOf]; omega
            · obtain rfl : il = j := by omega
              rw [show V.take il = V from List.take_of_length_le (by have := HXL.out; omega)]
              have hgs := HGS.out
              have hgv := HGV.out
              rw [HIL.out] at hgv
              have HGS2 := Lib.hid hgs
              rw [← hgv] at hown
              have HOF := Lib.hid hown
              have HGF := Lib.hid (ztrans HGQ.out hgq)
              obtain ⟨gv, hgvv⟩ : ∃ x, gk + sumI V = x := ⟨_, rfl⟩
              rw [hgvv] at hgs ⊢
              have HGS3 := Lib.hid hgs
              clear hgs hgv hown hgq hgvv
              go_wp2
              go_roundw
              case rel => exact ⟨k + 1, by omega, by go_num, by rw [HGS3.out], HOF.out, HGF.out⟩
              case measure => simp [intOf]; omega
        · obtain rfl : vn = k := by omega
          have HF := Lib.hid (And.intro hown hgq)
          clear hown hgq
          go_wp2
          go_ret
          exact ⟨rfl, HF.out.1, ⟨HF.out.2.os.trans HBW2.out.os, HF.out.2.tape.trans HBW2.out.tape, HF.out.2.output.trans HBW2.out.output, Nat.le_trans HBW2.out.size HF.out.2.size, fun b hb hn => (HF.out.2.block b (by have := HBW2.out.size; omega) hn).trans (HBW2.out.block b hb)⟩⟩
end Go.Proofs.Ytenbbmmbpjjjpaa
