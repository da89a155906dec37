/- Auction: a place is laid to its price: the drawn region of competing, by what has been carried out. Auction: competing, plain. Auction: competing. Printed by wip/gen/auc9.py. -/
import Derived.Test.YtenbbmmbpjjjpaaZAucE
import Derived.Test.YtenbbmmbpjjjpaaZStN
namespace Go.Proofs.Ytenbbmmbpjjjpaa
open Go.RowKit Go.Maps Go.WideMaps
set_option linter.unusedVariables false
set_option linter.unusedSimpArgs false
section
variable {P : Program} {o : Oper} {a : Act} {w : World} {K : Act → World → Prop} {Q : Exit → Act → World → Prop}
theorem wp_lookup_run (m x : Operand) (t : TypeId) (hop : o.op = Op.lookup t m x false) (mv xv : Value) (hm : a.eval m = mv) (hx : a.eval x = xv) {v : Value} (hrun : (Instr.lookup t mv xv false).run P w = .ok v w) (h : K (a.put o.dst v) w) : o.wp P a w K Q := by
  unfold Oper.wp
  simp [execOp, hop, hm, hx, hrun, Result.andThen]
  exact h
theorem wp_mapUpdate_run (m x y : Operand) (t : TypeId) (hop : o.op = Op.mapUpdate t m x y) (mv xv yv : Value) (hm : a.eval m = mv) (hx : a.eval x = xv) (hy : a.eval y = yv) {w' : World} (hrun : (Instr.mapUpdate t mv xv yv).run P w = .ok () w') (h : K (a.put o.dst undef) w') : o.wp P a w K Q := by
  unfold Oper.wp
  simp [execOp, hop, hm, hx, hy, hrun, Result.andThen]
  exact h
theorem wp_append_run (d s : Operand) (t t' : TypeId) (ho : o.op = .call { callee := .builtin .append, args := #[d, s], argTypes := #[t, t'] }) (v u : Value) (hd : a.eval d = v) (hs : a.eval s = u) {v' : Value} {w' : World}
    (hr : (Builtin.append_ #[t, t'] o.type #[v, u]).run P w = .ok v' w') (h : K (a.put o.dst v') w') : o.wp P a w K Q := by
  unfold Oper.wp execOp
  simp only [ho, resolve, invoke, builtin, Sem.run_bind, Sem.run_pure, Result.andThen_ok, List.map_toArray, List.map_cons, List.map_nil, hd, hs, hr]
  exact h
end
/-- the way back, from the look-up's world -/
def Bk9 (wl : World) (bm base c : Nat) (ov : Value) (grp : Int → List Int) (p : Int) (u : Value) : Prop :=
  ∀ (w1 : World) (v' : Value) (x : Int), wl.grownBy w1 u.ownBlock → w1.ownsInts base 3 .i64 v' (grp p ++ [x]) → (v'.ownBlock = u.ownBlock ∨ ∃ g, v'.ownBlock = some g ∧ wl.heap.size ≤ g) → (∀ g, v'.ownBlock = some g → ov.ownBlock ≠ some g) →
    ∃ w2, (Instr.mapUpdate 88 (.map (some bm)) (.int .i64 p) v').run Try.prog w1 = .ok () w2 ∧ GS w2 bm base ov (updG grp p (grp p ++ [x])) (c + 1) ∧ w1.grownBy w2 (some bm)
/-- the place has been looked up -/
def L9 (w0 : World) (bm base c : Nat) (ov : Value) (grp : Int → List Int) (p : Int) (u : Value) (w' : World) : Prop :=
  ∃ wl, Below w0.heap.size w0 wl ∧ Below wl.heap.size wl w' ∧ wl.ownsInts base 3 .i64 u (grp p) ∧ (∀ g, u.ownBlock = some g → ov.ownBlock ≠ some g) ∧ Bk9 wl bm base c ov grp p u
/-- the place has been appended -/
def A9 (w0 : World) (bm base c : Nat) (ov : Value) (grp : Int → List Int) (p k : Int) (v : Value) (w' : World) : Prop :=
  ∃ wl u, Below w0.heap.size w0 wl ∧ wl.ownsInts base 3 .i64 u (grp p) ∧ (∀ g, u.ownBlock = some g → ov.ownBlock ≠ some g) ∧ Bk9 wl bm base c ov grp p u ∧ wl.grownBy w' u.ownBlock ∧ w'.ownsInts base 3 .i64 v (grp p ++ [k]) ∧ (v.ownBlock = u.ownBlock ∨ ∃ g, v.ownBlock = some g ∧ wl.heap.size ≤ g)
/-- it is done: what may have turned is a row of the map's own, and the map -/
def F9 (w0 : World) (bm base c : Nat) (ov : Value) (grp : Int → List Int) (p k : Int) (w' : World) : Prop :=
  GS w' bm base ov (updG grp p (grp p ++ [k])) (c + 1) ∧ ∃ row : Option Nat, (∀ g, row = some g → base ≤ g ∧ ov.ownBlock ≠ some g ∧ ∀ cs T, w0.heap[g]? = some (.cells cs T (0, 0)) → T = 3) ∧ w0.heap.size ≤ w'.heap.size ∧ w'.os = w0.os ∧ w'.tape = w0.tape ∧ w'.output = w0.output ∧ ∀ b, b < w0.heap.size → some b ≠ row → b ≠ bm → w'.heap[b]? = w0.heap[b]?
structure C9 (w0 : World) (bm base c : Nat) (ov : Value) (grp : Int → List Int) (p k : Int) (B : Nat) (bc : Array Value) (lk bs ap up : Bool) (u s v : Value) (w' : World) : Prop where
  cel : up = false → w'.heap[B]? = some (.cells bc 37 (0, 0))
  pre : ap = false → up = false ∧ Below w0.heap.size w0 w' ∧ (bs = true → ∃ g, s = .slice (some ⟨g, 0, none⟩) 1 1 ∧ w'.cell? ⟨g, 0, none⟩ = some (.int .i64 k)) ∧ (lk = true → L9 w0 bm base c ov grp p u w')
  app : ap = true → up = false → A9 w0 bm base c ov grp p k v w'
  fin : up = true → F9 w0 bm base c ov grp p k w'
section
variable {w0 w' : World} {bm base c : Nat} {ov : Value} {grp : Int → List Int} {p k : Int} {B : Nat} {bc : Array Value} {lk bs ap up : Bool} {u s v : Value}
theorem C9.start (hB : w0.heap[B]? = some (.cells bc 37 (0, 0))) (hw : Below w0.heap.size w0 w') : C9 w0 bm base c ov grp p k B bc false false false false u s v w' :=
  ⟨fun _ => (hw.block B (Array.getElem?_eq_some_iff.1 hB).1).trans hB, fun _ => ⟨rfl, hw, fun h => (by cases h), fun h => (by cases h)⟩, fun h => (by cases h), fun h => (by cases h)⟩
theorem C9.look (h : C9 w0 bm base c ov grp p k B bc false bs false up u s v w') (hG : GS w0 bm base ov grp c) (hc : c < 1000) (hp : 1 ≤ p ∧ p ≤ 200000) :
    ∃ u', (Instr.lookup 88 (.map (some bm)) (.int .i64 p) false).run Try.prog w' = .ok u' w' ∧ C9 w0 bm base c ov grp p k B bc true bs false up u' s v w' := by
  obtain ⟨h1, h2, h3, h4⟩ := h.pre rfl
  subst h1
  obtain ⟨u', hrun, hoi, _, hsh, hbk⟩ := (hG.below h2).look hc hp
  exact ⟨u', hrun, h.cel, fun _ => ⟨rfl, h2, h3, fun _ => ⟨w', h2, brefl, hoi, hsh, hbk⟩⟩, fun h => (by cases h), fun h => (by cases h)⟩
theorem C9.built (h : C9 w0 bm base c ov grp p k B bc lk false false up u s v w') : C9 w0 bm base c ov grp p k B bc lk true false up u (.slice (some ⟨w'.heap.size, 0, none⟩) 1 1) v (w'.alloc (.cells #[.int .i64 k] 3 (0, 0))) := by
  obtain ⟨h1, h2, h3, h4⟩ := h.pre rfl
  subst h1
  refine ⟨fun _ => (heap_alloc_old w' _ (Array.getElem?_eq_some_iff.1 (h.cel rfl)).1).trans (h.cel rfl), fun _ => ⟨rfl, bal h2 _, fun _ => ⟨_, rfl, World.cell?_alloc_at _ _ _ _ rfl⟩, fun hl => ?_⟩, fun h => (by cases h), fun h => (by cases h)⟩
  obtain ⟨wl, l1, l2, l3, l4, l5⟩ := h4 hl
  exact ⟨wl, l1, bal l2 _, l3, l4, l5⟩
theorem C9.appd (h : C9 w0 bm base c ov grp p k B bc true true false up u s v w') (hG : GS w0 bm base ov grp c) (hz : base ≤ w0.heap.size) (hov : ∀ g, ov.ownBlock = some g → g < w0.heap.size) (hk : 0 ≤ k ∧ k ≤ 1000000) (hgl : (grp p).length ≤ 1000) (ty : TypeId) :
    ∃ v' w2, (Builtin.append_ #[22, 22] ty #[u, s]).run Try.prog w' = .ok v' w2 ∧ C9 w0 bm base c ov grp p k B bc true true true false u s v' w2 := by
  obtain ⟨h1, h2, h3, h4⟩ := h.pre rfl
  obtain ⟨g, rfl, hg⟩ := h3 rfl
  obtain ⟨wl, l1, l2, l3, l4, l5⟩ := h4 rfl
  subst h1
  obtain ⟨i1, hi, hz0, hz1, hz2⟩ := info_parts infoInt
  have hown := ownsRow_belowZ l3.1 l2
  obtain ⟨v', w2, hrun, ho2, hg2, _, hloc⟩ := run_append_own_at (P := Try.prog) w' base 22 ty 3 i1 (.int .i64 0) 1 8 Try.underlying22 hi hz0 hz1 hz2 rfl (by decide) u (grp p).length _ hown ⟨g, 0, none⟩ 1 1 [.int .i64 k] rfl
    (fun j x hj => by
      have : j = 0 := by have := (List.getElem?_eq_some_iff.1 hj).1; simpa using this
      subst this
      simp only [List.getElem?_cons_zero, Option.some.injEq] at hj
      subst hj
      rw [add_litZ]; exact hg) (fun x hx => by simp only [List.mem_singleton] at hx; subst hx; rfl) (by unfold maxLen; omega) (by omega) (by have := h2.size; omega)
  have hcB := h.cel rfl
  have hBl := (Array.getElem?_eq_some_iff.1 hcB).1
  have hne : some B ≠ u.ownBlock := by
    intro e
    rcases hown.2 with ⟨rfl, _⟩ | ⟨g', cap, cur, rfl, hbg, hgc, _⟩
    · cases e
    · simp only [Value.ownBlock, Option.some.injEq] at e
      subst e
      rw [hcB] at hgc
      simp at hgc
  have hgw : wl.grownBy w2 u.ownBlock := ⟨hg2.os.trans l2.os, hg2.tape.trans l2.tape, hg2.output.trans l2.output, Nat.le_trans l2.size hg2.size, fun b hb hn => (hg2.block b (by have := l2.size; omega) hn).trans (l2.block b hb)⟩
  refine ⟨v', w2, hrun, fun _ => (hg2.block B hBl hne).trans hcB, fun h => (by cases h), fun _ _ => ⟨wl, u, l1, l3, l4, l5, hgw, l3.appended (by simpa using ho2) (WalkArith.wf_i64 (by omega)), hloc.imp id fun h => ⟨_, h, l2.size⟩⟩, fun h => (by cases h)⟩
theorem C9.upd (h : C9 w0 bm base c ov grp p k B bc true true true false u s v w') (hG : GS w0 bm base ov grp c) (hz : base ≤ w0.heap.size) (hov : ∀ g, ov.ownBlock = some g → g < w0.heap.size) :
    ∃ w2, (Instr.mapUpdate 88 (.map (some bm)) (.int .i64 p) v).run Try.prog w' = .ok () w2 ∧ C9 w0 bm base c ov grp p k B bc true true true true u s v w2 := by
  obtain ⟨wl, u', l1, l3, l4, l5, l6, l7, l8⟩ := h.app rfl rfl
  have hz1 := l1.size
  have hno : ∀ g, v.ownBlock = some g → ov.ownBlock ≠ some g := by
    intro g hg e
    rcases l8 with h8 | ⟨g', h8, h9⟩
    · exact l4 g (by rw [← h8]; exact hg) e
    · rw [hg] at h8
      cases h8
      have := hov g e
      omega
  obtain ⟨w2, hrun, hGS, hgr⟩ := l5 w' v k l6 l7 l8 hno
  refine ⟨w2, hrun, fun h => (by cases h), fun h => (by cases h), fun _ h => (by cases h), fun _ => ⟨hGS, u'.ownBlock, fun g hg => ⟨(l3.1.lt g hg).1, l4 g hg, fun cs T hT => ?_⟩, by have := l6.size; have := hgr.size; omega, hgr.os.trans (l6.os.trans l1.os), hgr.tape.trans (l6.tape.trans l1.tape), hgr.output.trans (l6.output.trans l1.output), fun b hb hn hbm => ?_⟩⟩
  · rcases l3.1.2 with ⟨rfl, _⟩ | ⟨g', cap, cur, rfl, hbg, hgc, _⟩
    · cases hg
    · simp only [Value.ownBlock, Option.some.injEq] at hg
      subst hg
      rw [(l1.block g' (Array.getElem?_eq_some_iff.1 hT).1).trans hT] at hgc
      simp at hgc
      exact hgc.2
  · exact (hgr.block b (by have := l6.size; omega) (by simpa using hbm)).trans ((l6.block b (by omega) hn).trans (l1.block b hb))
end
end Go.Proofs.Ytenbbmmbpjjjpaa
namespace Go.Proofs.Ytenbbmmbpjjjpaa
open Go.RowKit Go.Maps Go.WideMaps
set_option linter.unusedVariables false
set_option linter.unusedSimpArgs false
theorem cell_heap {w : World} {b i : Nat} {C : Array Value} {T : TypeId} {u : Value} (h : w.heap[b]? = some (.cells C T (0, 0))) (hi : C[i]? = some u) : w.cell? ⟨b, i, none⟩ = some u := by
  rw [cell_of_row w b i _ T (0, 0) h]; exact hi
/-- bid i competes at the price p -/
def isC (S : List Bid) (le p : Int) (i : Nat) : Bool := match S[i]? with | some x => !x.f && (decide (le ≤ x.p) && decide (x.p = p)) | none => false
def grpT (S : List Bid) (le p : Int) : Nat → List Int
  | 0 => []
  | k + 1 => if isC S le p k then grpT S le p k ++ [(k : Int)] else grpT S le p k
def prcT (S : List Bid) (le : Int) : Nat → List Int
  | 0 => []
  | k + 1 => match S[k]? with
    | some x => if x.f = false ∧ le ≤ x.p ∧ grpT S le x.p k = [] then prcT S le k ++ [x.p] else prcT S le k
    | none => prcT S le k
def dsP (L : List Int) : List Int := srt (ltc fun a b => cmpI b a) L
/-- the places of the competitive bids, the greatest price first -/
def compL (S : List Bid) (le : Int) : List (List Int) := (dsP (prcT S le S.length)).map fun p => grpT S le p S.length
theorem grpT_len (S : List Bid) (le p : Int) : ∀ k, (grpT S le p k).length ≤ k
  | 0 => by simp [grpT]
  | k + 1 => by
    have := grpT_len S le p k
    unfold grpT
    split
    · simp; omega
    · omega
theorem prcT_len (S : List Bid) (le : Int) : ∀ k, (prcT S le k).length ≤ k
  | 0 => by simp [prcT]
  | k + 1 => by
    have := prcT_len S le k
    unfold prcT
    split
    · split
      · simp; omega
      · omega
    · omega
theorem grpT_no {S : List Bid} {le : Int} {k : Nat} {x : Bid} (h : S[k]? = some x) (hx : x.f = true ∨ x.p < le) : (fun p => grpT S le p (k + 1)) = fun p => grpT S le p k := by
  funext p
  rw [grpT]
  unfold isC
  rw [h]
  rcases hx with hx | hx
  · simp [hx]
  · rw [if_neg (by simp only [Bool.and_eq_true, decide_eq_true_eq]; omega)]
theorem grpT_yes {S : List Bid} {le : Int} {k : Nat} {x : Bid} (h : S[k]? = some x) (hf : x.f = false) (hx : le ≤ x.p) : (fun p => grpT S le p (k + 1)) = updG (fun p => grpT S le p k) x.p (grpT S le x.p k ++ [(k : Int)]) := by
  funext p
  rw [grpT]
  unfold isC updG
  rw [h]
  by_cases e : p = x.p
  · rw [if_pos e, e]; simp [hf, hx]
  · rw [if_neg e]
    have : ¬ x.p = p := fun h => e h.symm
    simp [this]
theorem prcT_no {S : List Bid} {le : Int} {k : Nat} {x : Bid} (h : S[k]? = some x) (hx : ¬ (x.f = false ∧ le ≤ x.p ∧ grpT S le x.p k = [])) : prcT S le (k + 1) = prcT S le k := by
  rw [prcT, h]; simp only; rw [if_neg hx]
theorem prcT_yes {S : List Bid} {le : Int} {k : Nat} {x : Bid} (h : S[k]? = some x) (hx : x.f = false ∧ le ≤ x.p ∧ grpT S le x.p k = []) : prcT S le (k + 1) = prcT S le k ++ [x.p] := by
  rw [prcT, h]; simp only; rw [if_pos hx]
theorem prcT_bd {S : List Bid} {le : Int} (hok : ∀ x ∈ S, x.f = false → 1 ≤ x.p ∧ x.p ≤ 200000) : ∀ k, ∀ q ∈ prcT S le k, 1 ≤ q ∧ q ≤ 200000
  | 0, q, h => by simp [prcT] at h
  | k + 1, q, h => by
    have ih := prcT_bd (le := le) hok k q
    rw [prcT] at h
    split at h
    · rename_i x hx
      split at h
      · rename_i hc
        rw [List.mem_append] at h
        rcases h with h | h
        · exact ih h
        · simp only [List.mem_singleton] at h
          subst h
          exact hok x (List.mem_of_getElem? hx) hc.1
      · exact ih h
    · exact ih h
theorem dsP_wk : Wk (ltc fun a b : Int => cmpI b a) := ltP_wk fun x => x
theorem cmp1_any (x y : Int) (w : World) : Calls Try.prog 56 #[.int .i64 x, .int .i64 y] w fun e w' => e = .returned (.int .i64 (cmpI y x)) ∧ w' = w := by
  obtain ⟨r, hr⟩ : ∃ r, cmpI y x = r := ⟨_, rfl⟩
  rw [hr]
  have HR := Lib.hid hr
  go_enter Try.func56, Try.ntmps56
  go_wp2_with fail
  refine (compare_any y x _).mono ?_
  rw [HR.out]
  rintro e w1 ⟨rfl, rfl⟩
  go_wp2
  go_ret
  exact ⟨rfl, rfl⟩
/-- the look-up alone, and what its slice shuns -/
theorem GS.look2 {w : World} {bm base c : Nat} {ov : Value} {grp : Int → List Int} {No : Nat → Prop} (h : GS w bm base ov grp c) (hs : w.Shuns bm No) (hc : c < 1000) {p : Int} (hp : 1 ≤ p ∧ p ≤ 200000) :
    ∃ u, (Instr.lookup 88 (.map (some bm)) (.int .i64 p) false).run Try.prog w = .ok u w ∧ w.ownsInts base 3 .i64 u (grp p) ∧ (∀ g, u.ownBlock = some g → ¬ No g) := by
  obtain ⟨u, hrun, hoi, _⟩ := h.look hc hp
  refine ⟨u, hrun, hoi, ?_⟩
  obtain ⟨D, ⟨es, clock, hb, F, _⟩, _⟩ := h.own
  rcases Maps.fit_look false lawI Try.underlying88 (zeroSl _) hb F (keyI hp) with ⟨hrun', _, _⟩ | ⟨e0, y, hm0, _, hrun', _, _, _⟩
  · rw [hrun] at hrun'
    obtain rfl : u = .slice none 0 0 := by simpa using hrun'
    intro g hg'
    cases hg'
  · rw [hrun] at hrun'
    obtain rfl : u = e0.val := by simpa using hrun'
    exact fun g hg' => hs es clock hb e0 hm0 g hg'
theorem RowsI.low {B N : Nat} {U U' : World} {us : List Value} {GG : List (List Int)} (h : RowsI (fun b => B ≤ b ∧ b < N) U us GG) (hb : Below N U U') : RowsI (fun b => B ≤ b ∧ b < N) U' us GG :=
  ⟨h.1, fun k u G hu hG => (h.2 k u G hu hG).block hb.size fun b hp _ => hb.block b hp.2⟩
theorem Sl.ownI {w : World} {base : Nat} {v : Value} {L : List Int} (h : w.ownsRow base 3 1 v L.length (flatE encI L)) : Sl 1 encI (fun b => v.ownBlock = some b ∧ base ≤ b) w v L := by
  have h1 : Sl 1 encI (fun b => base ≤ b) w v L := Sl.own encI_len h rfl (fun _ h => h)
  rcases h.2 with ⟨rfl, h0⟩ | ⟨g, cap, cur, rfl, hbg, hg, hnc, hcm, _⟩
  · have : L = [] := List.eq_nil_of_length_eq_zero h0
    subst this; exact Sl.nil
  · obtain ⟨ao, n, c, e1, e2, e3, e4, e5⟩ := h1
    cases e1
    refine ⟨_, _, _, rfl, e2, e3, e4, ?_⟩
    rcases e5 with e5 | ⟨b, off, k1, k2, k3, k4⟩
    · exact .inl e5
    · cases k1
      exact .inr ⟨_, _, rfl, ⟨rfl, k2⟩, k3, k4⟩
theorem F9.row {w0 w' : World} {bm base c n : Nat} {ov : Value} {grp : Int → List Int} {p k : Int} {xs : List Value} (h : F9 w0 bm base c ov grp p k w') (ho : w0.ownsRow base 3 1 ov n xs) (hbm : bm < base) : w'.ownsRow base 3 1 ov n xs := by
  obtain ⟨_, row, h1, h2, h3, h4, h5, h6⟩ := h
  refine ⟨ho.1, ?_⟩
  rcases ho.2 with hn | ⟨g, cap, cur, rfl, hbg, hg, hrest⟩
  · exact .inl hn
  · refine .inr ⟨g, cap, cur, rfl, hbg, ?_, hrest⟩
    exact (h6 g (Array.getElem?_eq_some_iff.1 hg).1 (fun e => (h1 g e.symm).2.1 rfl) (by omega)).trans hg
theorem F9.below {w w0 w' : World} {bm base c B : Nat} {ov : Value} {grp : Int → List Int} {p k : Int} (h : F9 w0 bm base c ov grp p k w') (hb : Below B w w0) (h1 : B ≤ bm) (h2 : B ≤ base) (h3 : B ≤ w.heap.size) : Below B w w' := by
  obtain ⟨_, row, r1, r2, r3, r4, r5, r6⟩ := h
  exact ⟨r3.trans hb.os, r4.trans hb.tape, r5.trans hb.output, Nat.le_trans hb.size r2, fun b hlt => (r6 b (by have := hb.size; omega) (fun e => by have := (r1 b e.symm).1; omega) (by omega)).trans (hb.block b hlt)⟩
theorem GS.moved {U w8 : World} {bm base c : Nat} {ov v' : Value} {grp : Int → List Int} (h : GS U bm base ov grp c) (hg : U.grownBy w8 ov.ownBlock) (hb : ∀ g, ov.ownBlock = some g → base ≤ g) (hloc : v'.ownBlock = ov.ownBlock ∨ v'.ownBlock = some U.heap.size) : GS w8 bm base v' grp c := by
  have h1 : GS U bm base v' grp c := h.reno (fun g hg => by
    rcases hloc with h8 | h8
    · exact .inl (by rw [← h8]; exact hg)
    · rw [hg] at h8; cases h8; exact .inr (Nat.le_refl _))
  have h2 := h.kept hg (fun j hj => ⟨hj, hb j hj⟩)
  have hlt := h.lt
  exact ⟨h2.own, h1.sh.kept hg hlt.1 (fun e => by have := hb bm e.symm; omega)⟩
end Go.Proofs.Ytenbbmmbpjjjpaa
namespace Go.Proofs.Ytenbbmmbpjjjpaa
open Go.RowKit Go.Maps Go.WideMaps
set_option linter.unusedVariables false
set_option linter.unusedSimpArgs false
set_option maxHeartbeats 16000000 in
set_option maxRecDepth 100000 in
theorem competing_any (P : Nat → Prop) (sb : Nat) (am le sh : Int) (un : Bool) (vS vG : Value) (S : List Bid) (G : List Int) (w : World) (h : SaleIn P w sb am le sh un vS vG S G) (hok : ∀ x ∈ S, x.f = false → 1 ≤ x.p ∧ x.p ≤ 200000) (hpl : (prcT S le S.length).length ≤ 12) :
    Calls Try.prog 35 #[.pointer (some ⟨sb, 0, none⟩)] w fun e w' => ∃ v, e = .returned v ∧ SlsI (fun b => w.heap.size ≤ b) w' v (compL S le) ∧ Below w.heap.size w w' := by
  obtain ⟨sa, n, sc, rfl, hn, -, -⟩ := h.s.shape
  have hn60 : n ≤ 60 := by have := h.ls; omega
  obtain ⟨M, hM⟩ : ∃ M, compL S le = M := ⟨_, rfl⟩
  rw [hM]
  unfold compL at hM
  rw [hn] at hM hpl
  have HS := Lib.hid h.s
  have HC := Lib.hid (And.intro h.c1 h.c4)
  have HOK := Lib.hid hok
  have HPL := Lib.hid hpl
  have HM := Lib.hid hM
  have HN := Lib.hid hn
  have c4 := h.c4
  have hsb : sb < w.heap.size := World.block_lt_of_cell? _ _ c4
  obtain ⟨i1, hi, hz0, hz1, hz2⟩ := info_parts infoInt
  obtain ⟨j1, ji, jz0, jz1, jz2⟩ := info_parts infoSl
  have eg : ∀ args w, (callFunc 56 args).run Try.prog w = .ok (.enter 56 args) w := enters_of Try.func56 (by kernel_rfl) rfl
  have HEG := Lib.hid eg
  have hmm := @run_makeMap Try.prog
  clear h hn hok hpl hM eg
  go_enter Try.func35, Try.ntmps35
  have c4' := keepA (o := .map #[] 0) c4
  go_wp2
  go_loopw [4, 16] (fun ov iv wr => ∃ k c : Nat, k ≤ n ∧ c ≤ k ∧ iv = .int .i64 k ∧ GS wr w.heap.size (w.heap.size + 1) ov (fun p => grpT S le p k) c ∧ wr.ownsRow (w.heap.size + 1) 3 1 ov (prcT S le k).length (flatE encI (prcT S le k)) ∧ Below w.heap.size w wr ∧ w.heap.size + 1 ≤ wr.heap.size) (fun _ iv _ => n - (intOf iv).toNat)
  case atStart => exact ⟨0, 0, by omega, by omega, rfl, GS.made w, World.ownsRow_nil _ _ _ _, bal brefl _, by simp⟩
  case round =>
    obtain ⟨k, c, hk, hc, rfl, hG, hown, hbr, hz⟩ := hrel
    have zr := hbr.size
    by_cases hlt : k < n
    · obtain ⟨bb, off, bd, num, p, a, f, rfl, -, hbb, hx, k0, k1, k2, k3, k4⟩ := (HS.out.below hbr).bid hlt
      have hkz : (k : Int) < (n : Int) := by omega
      have hpl := prcT_len S le k
      have hsr : sb < wr.heap.size := by omega
      obtain ⟨W1, hW1⟩ : ∃ W, W = wr.alloc (.cells #[.int .i64 bd, .int .i64 num, .int .i64 p, .int .i64 a, .bool f] 37 (0, 0)) := ⟨_, rfl⟩
      have hb1 : Below wr.heap.size wr W1 := by rw [hW1]; exact bal brefl _
      have hB1 : W1.heap[wr.heap.size]? = some (.cells #[.int .i64 bd, .int .i64 num, .int .i64 p, .int .i64 a, .bool f] 37 (0, 0)) := by rw [hW1]; exact heap_alloc_new wr _
      have uf := up_cell (show W1.cell? ⟨wr.heap.size, 4, none⟩ = some (.bool f) from cell_heap hB1 rfl)
      have up := up_cell (show W1.cell? ⟨wr.heap.size, 2, none⟩ = some (.int .i64 p) from cell_heap hB1 rfl)
      have ul := up_cell (keepB hb1 (keepB hbr HC.out.1))
      have HG1 := Lib.hid (hG.below hb1)
      have HO1 := Lib.hid (ownsRow_belowZ hown hb1)
      have HBR := Lib.hid hbr
      have HB1 := Lib.hid hb1
      have HBX := Lib.hid hB1
      have HX := Lib.hid hW1
      have HXX := Lib.hid hx
      clear hx hG hown hbr hb1 hB1 hW1
      go_upto_region 6 with fail
      rw [← HX.out]
      clear k0 k1 k2 k3 k4
      cases f with
      | true =>
        (refine wp_region_up (by kernel_rfl) (by kernel_rfl) ?_); (repeat (go_big_quiet_step ((fail)))); (refine wpQuiet_nil ?_); (rintro w2 ⟨⟨_, hb2⟩, rfl⟩)
        have HG2 := Lib.hid (HG1.out.below hb2)
        have HO2 := Lib.hid (ownsRow_belowZ HO1.out hb2)
        have HB2 := Lib.hid (bup HBR.out (bup HB1.out hb2))
        have zz := HB2.out.size
        have zz2 := (bup HB1.out hb2).size
        have e1 := Lib.hid (grpT_no (le := le) HXX.out (.inl rfl))
        have e2 := Lib.hid (prcT_no (le := le) HXX.out (by simp))
        clear uf up ul hb2
        go_wp2
        go_roundw
        case rel => exact ⟨k + 1, c, by omega, by omega, by go_num, by rw [e1.out]; exact HG2.out, by rw [e2.out]; exact HO2.out, HB2.out, by omega⟩
        case measure => simp [intOf]; omega
      | false =>
      by_cases hple : p < le
      · (refine wp_region_up (by kernel_rfl) (by kernel_rfl) ?_); (repeat (go_big_quiet_step ((fail)))); (refine wpQuiet_nil ?_); (rintro w2 ⟨⟨_, hb2⟩, rfl⟩)
        have HG2 := Lib.hid (HG1.out.below hb2)
        have HO2 := Lib.hid (ownsRow_belowZ HO1.out hb2)
        have HB2 := Lib.hid (bup HBR.out (bup HB1.out hb2))
        have zz := HB2.out.size
        have zz2 := (bup HB1.out hb2).size
        have e1 := Lib.hid (grpT_no (le := le) HXX.out (.inr hple))
        have e2 := Lib.hid (prcT_no (le := le) HXX.out (by simp only; omega))
        clear uf up ul hb2
        go_wp2
        go_roundw
        case rel => exact ⟨k + 1, c, by omega, by omega, by go_num, by rw [e1.out]; exact HG2.out, by rw [e2.out]; exact HO2.out, HB2.out, by omega⟩
        case measure => simp [intOf]; omega
      · have hple' : le ≤ p := by omega
        (refine wp_region_up (by kernel_rfl) (by kernel_rfl) ?_); (repeat (go_big_quiet_step ((fail)))); (refine wpQuiet_nil ?_); (rintro w2 ⟨⟨_, hb2⟩, rfl⟩)
        have HG2 := Lib.hid (HG1.out.below hb2)
        have HO2 := Lib.hid (ownsRow_belowZ HO1.out hb2)
        have HB2 := Lib.hid (bup HBR.out (bup HB1.out hb2))
        have HBW := Lib.hid (bup HB1.out hb2)
        have hB2 := (hb2.block wr.heap.size (Array.getElem?_eq_some_iff.1 HBX.out).1).trans HBX.out
        have zz2 := (bup HB1.out hb2).size
        have x2 : w2.cell? ⟨wr.heap.size, 2, none⟩ = some (.int .i64 p) := cell_heap hB2 rfl
        have zB2 : wr.heap.size < w2.heap.size := (Array.getElem?_eq_some_iff.1 hB2).1
        have HBX2 := Lib.hid hB2
        have HNE := Lib.hid (show some wr.heap.size ≠ u4.ownBlock from fun e => by
          rcases HO2.out.2 with ⟨h0, _⟩ | ⟨g, cap, cur, h0, _, hgc, _⟩
          · rw [h0] at e; cases e
          · rw [h0] at e; simp only [Value.ownBlock, Option.some.injEq] at e; subst e; rw [HBX2.out] at hgc; simp at hgc)
        have hpb : 1 ≤ p ∧ p ≤ 200000 := HOK.out _ (List.mem_of_getElem? HXX.out) rfl
        have HPB := Lib.hid hpb
        obtain ⟨u, hrun, hoi, hul, hshu, -⟩ := HG2.out.look (by omega) hpb
        obtain ⟨ua, uc, rfl⟩ := own_sl hoi.1
        have e1 := Lib.hid (grpT_yes (le := le) HXX.out rfl hple')
        clear uf up ul hb2 hB2 hoi hshu
        simp only at hul hrun e1
        obtain ⟨q, hq⟩ : ∃ q, grpT S le p k = q := ⟨_, rfl⟩
        rw [hq] at hul hrun
        have HQ := Lib.hid hq
        clear hq
        by_cases hq0 : q = []
        · subst hq0
          have e2 := Lib.hid (prcT_yes (le := le) HXX.out ⟨rfl, hple', HQ.out⟩)
          simp only [List.length_nil] at hrun
          go_wp2_with (at_builtin; go_must (refine wpList_append_own_at _ rfl _ _ 22 rfl (w.heap.size + 1) 3 i1 (.int .i64 0) 1 8 Try.underlying22 hi hz0 hz1 hz2 rfl (by decide) _ _ _ rfl (HO2.out.alloc _) ⟨_, 0, none⟩ 1 1 (encI p) rfl rfl (newsL _ _ _) (oneEI _) (by unfold maxLen; omega) (by omega) (by simp; omega) ?_); intro v' w8 hown8 hgrow8 _ hloc8)
          go_upto_region 9 with fail
          replace hloc8 : v'.ownBlock = u4.ownBlock ∨ v'.ownBlock = some (w2.alloc (.cells (encI p).toArray 3)).heap.size := hloc8
          replace hgrow8 : (w2.alloc (.cells (encI p).toArray 3)).grownBy w8 u4.ownBlock := hgrow8
          have HB8 := Lib.hid ((hgrow8.block wr.heap.size (by simp; omega) HNE.out).trans ((heap_alloc_old w2 _ zB2).trans HBX2.out))
          have HG8 := Lib.hid ((HG2.out.below (bal brefl _)).moved hgrow8 (fun g hg => (HO2.out.lt g hg).1) hloc8)
          have HZ8 := Lib.hid (show w.heap.size + 1 ≤ w8.heap.size by have := hgrow8.size; simp at this; omega)
          have HV8 := Lib.hid (show ∀ g, v'.ownBlock = some g → g < w8.heap.size from fun g hg => (hown8.lt g hg).2)
          have HO8 := Lib.hid hown8
          have HBW8 := Lib.hid ((bal HB2.out _).grown hgrow8 (by simp; omega) (fun q hq => by have := (HO2.out.lt q hq).1; omega))
          clear hgrow8 hloc8 hown8 hrun x2
          refine wp_region_any (by kernel_rfl) ?_
          change wpAny _ _ _ _ _ _ _ (World.drew _)
          refine vf_anyP_inv (J := fun listed a' w' => ∃ t44 t45 t46 t47 t48 t49 t50 t51 t52 t53 : Value, a' = { tmps := #[.pointer (some ⟨sb, 0, none⟩), undef, .slice none 0 0, .map (some w.heap.size), v', .int .i64 k, .pointer (some ⟨wr.heap.size, 0, none⟩), undef, undef, undef, .map (some w.heap.size), .pointer (some ⟨sb, 0, none⟩), .pointer (some ⟨sb, 0, none⟩), .pointer (some ⟨sb, 4, none⟩), .slice (some ⟨bb, off, none⟩) n sc, .int .i64 n, .int .i64 k, .bool true, .int .i64 k, .pointer (some ⟨bb, off + k * 5, none⟩), .agg #[.int .i64 bd, .int .i64 num, .int .i64 p, .int .i64 a, .bool false], .pointer (some ⟨wr.heap.size, 4, none⟩), .bool false, .bool false, .pointer (some ⟨wr.heap.size, 2, none⟩), .int .i64 p, .pointer (some ⟨sb, 0, none⟩), .pointer (some ⟨sb, 0, none⟩), .pointer (some ⟨sb, 0, none⟩), .pointer (some ⟨sb, 1, none⟩), .int .i64 le, .bool false, .bool false, .map (some w.heap.size), .pointer (some ⟨wr.heap.size, 2, none⟩), .int .i64 p, .slice ua 0 uc, .int .i64 0, .bool true, u4, .pointer (some ⟨wr.heap.size, 2, none⟩), .int .i64 p, .slice (some ⟨w2.heap.size, 0, none⟩) 1 1, v', t44, t45, t46, t47, t48, t49, t50, t51, t52, t53, u54, undef, undef, undef, undef, undef, undef, undef, undef, undef, undef, undef, undef, undef, undef, undef, undef], defers := [] } ∧ listed.size = 11 ∧ (listed.getD 0 false = true → t44 = .map (some w.heap.size)) ∧ (listed.getD 1 false = true → t45 = .pointer (some ⟨wr.heap.size, 2, none⟩)) ∧ (listed.getD 2 false = true → t46 = .int .i64 p) ∧ (listed.getD 3 false = true → t47 = .map (some w.heap.size)) ∧ (listed.getD 4 false = true → t48 = .pointer (some ⟨wr.heap.size, 2, none⟩)) ∧ (listed.getD 5 false = true → t49 = .int .i64 p) ∧ (listed.getD 7 false = true → t51 = .int .i64 (k : Int)) ∧ (listed.getD 6 false = true → listed.getD 5 false = true) ∧ (listed.getD 9 false = true → listed.getD 6 false = true ∧ listed.getD 8 false = true) ∧ (listed.getD 10 false = true → listed.getD 0 false = true ∧ listed.getD 2 false = true ∧ listed.getD 9 false = true) ∧ C9 w8 w.heap.size (w.heap.size + 1) c v' (fun p => grpT S le p k) p (k : Int) wr.heap.size #[.int .i64 bd, .int .i64 num, .int .i64 p, .int .i64 a, .bool false] (listed.getD 6 false) (listed.getD 8 false) (listed.getD 9 false) (listed.getD 10 false) t50 t52 t53 w') ?step ?fin _ _ _ _ ⟨_, _, _, _, _, _, _, _, _, _, rfl, rfl, fun h => by simp at h, fun h => by simp at h, fun h => by simp at h, fun h => by simp at h, fun h => by simp at h, fun h => by simp at h, fun h => by simp at h, fun h => by simp at h, fun h => by simp at h, fun h => by simp at h, C9.start HB8.out (bdr brefl)⟩ (by decide)
          case step =>
            rintro listed a' w' ⟨t44, t45, t46, t47, t48, t49, t50, t51, t52, t53, rfl, hsz, f0, f1, f2, f3, f4, f5, f7, o6, o9, oU, hvb⟩ i hi K hK
            obtain ⟨hni, o, ho, hdep⟩ := mem_ready.1 hi
            have hin : i < 11 := (Array.getElem?_eq_some_iff.1 ho).1
            have hself := vf_listed_self hni
            have hno := vf_listed_no hni
            rcases (show i = 0 ∨ i = 1 ∨ i = 2 ∨ i = 3 ∨ i = 4 ∨ i = 5 ∨ i = 6 ∨ i = 7 ∨ i = 8 ∨ i = 9 ∨ i = 10 by omega) with rfl | rfl | rfl | rfl | rfl | rfl | rfl | rfl | rfl | rfl | rfl
            · injection ho with ho
              subst ho
              have g6 : (listed.setIfInBounds 0 true).getD 6 false = listed.getD 6 false := getD_set_ne _ (by decide)
              have g8 : (listed.setIfInBounds 0 true).getD 8 false = listed.getD 8 false := getD_set_ne _ (by decide)
              have g9 : (listed.setIfInBounds 0 true).getD 9 false = listed.getD 9 false := getD_set_ne _ (by decide)
              have g10 : (listed.setIfInBounds 0 true).getD 10 false = listed.getD 10 false := getD_set_ne _ (by decide)
              have HVB := Lib.hid hvb
              clear hi hdep hvb
              refine vf_wpOpP_of rfl rfl ?_
              go_simp
              exact hK _ _ ⟨(.map (some w.heap.size)), t45, t46, t47, t48, t49, t50, t51, t52, t53, rfl, by simpa using hsz, fun _ => rfl, fun h => f1 (vf_listed_ne (by decide) h), fun h => f2 (vf_listed_ne (by decide) h), fun h => f3 (vf_listed_ne (by decide) h), fun h => f4 (vf_listed_ne (by decide) h), fun h => f5 (vf_listed_ne (by decide) h), fun h => f7 (vf_listed_ne (by decide) h), fun h => vf_listed_keep (o6 (vf_listed_ne (by decide) h)), fun h => by have q := o9 (vf_listed_ne (by decide) h); exact ⟨vf_listed_keep q.1, vf_listed_keep q.2⟩, fun h => by have q := oU (vf_listed_ne (by decide) h); exact ⟨vf_listed_keep q.1, vf_listed_keep q.2.1, vf_listed_keep q.2.2⟩, by rw [g6, g8, g9, g10]; exact HVB.out⟩
            · injection ho with ho
              subst ho
              have g6 : (listed.setIfInBounds 1 true).getD 6 false = listed.getD 6 false := getD_set_ne _ (by decide)
              have g8 : (listed.setIfInBounds 1 true).getD 8 false = listed.getD 8 false := getD_set_ne _ (by decide)
              have g9 : (listed.setIfInBounds 1 true).getD 9 false = listed.getD 9 false := getD_set_ne _ (by decide)
              have g10 : (listed.setIfInBounds 1 true).getD 10 false = listed.getD 10 false := getD_set_ne _ (by decide)
              have HVB := Lib.hid hvb
              clear hi hdep hvb
              refine vf_wpOpP_of rfl rfl ?_
              go_simp
              exact hK _ _ ⟨t44, (.pointer (some ⟨wr.heap.size, 2, none⟩)), t46, t47, t48, t49, t50, t51, t52, t53, rfl, by simpa using hsz, fun h => f0 (vf_listed_ne (by decide) h), fun _ => rfl, fun h => f2 (vf_listed_ne (by decide) h), fun h => f3 (vf_listed_ne (by decide) h), fun h => f4 (vf_listed_ne (by decide) h), fun h => f5 (vf_listed_ne (by decide) h), fun h => f7 (vf_listed_ne (by decide) h), fun h => vf_listed_keep (o6 (vf_listed_ne (by decide) h)), fun h => by have q := o9 (vf_listed_ne (by decide) h); exact ⟨vf_listed_keep q.1, vf_listed_keep q.2⟩, fun h => by have q := oU (vf_listed_ne (by decide) h); exact ⟨vf_listed_keep q.1, vf_listed_keep q.2.1, vf_listed_keep q.2.2⟩, by rw [g6, g8, g9, g10]; exact HVB.out⟩
            · injection ho with ho
              subst ho
              have d1 := hdep ⟨1, .data⟩ (by simp) rfl
              have g6 : (listed.setIfInBounds 2 true).getD 6 false = listed.getD 6 false := getD_set_ne _ (by decide)
              have g8 : (listed.setIfInBounds 2 true).getD 8 false = listed.getD 8 false := getD_set_ne _ (by decide)
              have g9 : (listed.setIfInBounds 2 true).getD 9 false = listed.getD 9 false := getD_set_ne _ (by decide)
              have g10 : (listed.setIfInBounds 2 true).getD 10 false = listed.getD 10 false := getD_set_ne _ (by decide)
              obtain rfl := f1 d1
              have n10 : listed.getD 10 false = false := by
                cases h : listed.getD 10 false with
                | false => rfl
                | true => have q := (oU h).2.1; rw [hno] at q; cases q
              have k2 : w'.cell? ⟨wr.heap.size, 2, none⟩ = some (.int .i64 p) := cell_heap (hvb.cel n10) rfl
              have HVB := Lib.hid hvb
              clear hi hdep hvb
              refine vf_wpOpP_of rfl rfl ?_
              go_simp
              exact hK _ _ ⟨t44, _, (.int .i64 p), t47, t48, t49, t50, t51, t52, t53, rfl, by simpa using hsz, fun h => f0 (vf_listed_ne (by decide) h), fun h => f1 (vf_listed_ne (by decide) h), fun _ => rfl, fun h => f3 (vf_listed_ne (by decide) h), fun h => f4 (vf_listed_ne (by decide) h), fun h => f5 (vf_listed_ne (by decide) h), fun h => f7 (vf_listed_ne (by decide) h), fun h => vf_listed_keep (o6 (vf_listed_ne (by decide) h)), fun h => by have q := o9 (vf_listed_ne (by decide) h); exact ⟨vf_listed_keep q.1, vf_listed_keep q.2⟩, fun h => by have q := oU (vf_listed_ne (by decide) h); exact ⟨vf_listed_keep q.1, vf_listed_keep q.2.1, vf_listed_keep q.2.2⟩, by rw [g6, g8, g9, g10]; exact HVB.out⟩
            · injection ho with ho
              subst ho
              have g6 : (listed.setIfInBounds 3 true).getD 6 false = listed.getD 6 false := getD_set_ne _ (by decide)
              have g8 : (listed.setIfInBounds 3 true).getD 8 false = listed.getD 8 false := getD_set_ne _ (by decide)
              have g9 : (listed.setIfInBounds 3 true).getD 9 false = listed.getD 9 false := getD_set_ne _ (by decide)
              have g10 : (listed.setIfInBounds 3 true).getD 10 false = listed.getD 10 false := getD_set_ne _ (by decide)
              have HVB := Lib.hid hvb
              clear hi hdep hvb
              refine vf_wpOpP_of rfl rfl ?_
              go_simp
              exact hK _ _ ⟨t44, t45, t46, (.map (some w.heap.size)), t48, t49, t50, t51, t52, t53, rfl, by simpa using hsz, fun h => f0 (vf_listed_ne (by decide) h), fun h => f1 (vf_listed_ne (by decide) h), fun h => f2 (vf_listed_ne (by decide) h), fun _ => rfl, fun h => f4 (vf_listed_ne (by decide) h), fun h => f5 (vf_listed_ne (by decide) h), fun h => f7 (vf_listed_ne (by decide) h), fun h => vf_listed_keep (o6 (vf_listed_ne (by decide) h)), fun h => by have q := o9 (vf_listed_ne (by decide) h); exact ⟨vf_listed_keep q.1, vf_listed_keep q.2⟩, fun h => by have q := oU (vf_listed_ne (by decide) h); exact ⟨vf_listed_keep q.1, vf_listed_keep q.2.1, vf_listed_keep q.2.2⟩, by rw [g6, g8, g9, g10]; exact HVB.out⟩
            · injection ho with ho
              subst ho
              have g6 : (listed.setIfInBounds 4 true).getD 6 false = listed.getD 6 false := getD_set_ne _ (by decide)
              have g8 : (listed.setIfInBounds 4 true).getD 8 false = listed.getD 8 false := getD_set_ne _ (by decide)
              have g9 : (listed.setIfInBounds 4 true).getD 9 false = listed.getD 9 false := getD_set_ne _ (by decide)
              have g10 : (listed.setIfInBounds 4 true).getD 10 false = listed.getD 10 false := getD_set_ne _ (by decide)
              have HVB := Lib.hid hvb
              clear hi hdep hvb
              refine vf_wpOpP_of rfl rfl ?_
              go_simp
              exact hK _ _ ⟨t44, t45, t46, t47, (.pointer (some ⟨wr.heap.size, 2, none⟩)), t49, t50, t51, t52, t53, rfl, by simpa using hsz, fun h => f0 (vf_listed_ne (by decide) h), fun h => f1 (vf_listed_ne (by decide) h), fun h => f2 (vf_listed_ne (by decide) h), fun h => f3 (vf_listed_ne (by decide) h), fun _ => rfl, fun h => f5 (vf_listed_ne (by decide) h), fun h => f7 (vf_listed_ne (by decide) h), fun h => vf_listed_keep (o6 (vf_listed_ne (by decide) h)), fun h => by have q := o9 (vf_listed_ne (by decide) h); exact ⟨vf_listed_keep q.1, vf_listed_keep q.2⟩, fun h => by have q := oU (vf_listed_ne (by decide) h); exact ⟨vf_listed_keep q.1, vf_listed_keep q.2.1, vf_listed_keep q.2.2⟩, by rw [g6, g8, g9, g10]; exact HVB.out⟩
            · injection ho with ho
              subst ho
              have d4 := hdep ⟨4, .data⟩ (by simp) rfl
              have g6 : (listed.setIfInBounds 5 true).getD 6 false = listed.getD 6 false := getD_set_ne _ (by decide)
              have g8 : (listed.setIfInBounds 5 true).getD 8 false = listed.getD 8 false := getD_set_ne _ (by decide)
              have g9 : (listed.setIfInBounds 5 true).getD 9 false = listed.getD 9 false := getD_set_ne _ (by decide)
              have g10 : (listed.setIfInBounds 5 true).getD 10 false = listed.getD 10 false := getD_set_ne _ (by decide)
              obtain rfl := f4 d4
              have n10 : listed.getD 10 false = false := by
                cases h : listed.getD 10 false with
                | false => rfl
                | true => have q := o6 (o9 (oU h).2.2).1; rw [hno] at q; cases q
              have k2 : w'.cell? ⟨wr.heap.size, 2, none⟩ = some (.int .i64 p) := cell_heap (hvb.cel n10) rfl
              have HVB := Lib.hid hvb
              clear hi hdep hvb
              refine vf_wpOpP_of rfl rfl ?_
              go_simp
              exact hK _ _ ⟨t44, t45, t46, t47, _, (.int .i64 p), t50, t51, t52, t53, rfl, by simpa using hsz, fun h => f0 (vf_listed_ne (by decide) h), fun h => f1 (vf_listed_ne (by decide) h), fun h => f2 (vf_listed_ne (by decide) h), fun h => f3 (vf_listed_ne (by decide) h), fun h => f4 (vf_listed_ne (by decide) h), fun _ => rfl, fun h => f7 (vf_listed_ne (by decide) h), fun h => vf_listed_keep (o6 (vf_listed_ne (by decide) h)), fun h => by have q := o9 (vf_listed_ne (by decide) h); exact ⟨vf_listed_keep q.1, vf_listed_keep q.2⟩, fun h => by have q := oU (vf_listed_ne (by decide) h); exact ⟨vf_listed_keep q.1, vf_listed_keep q.2.1, vf_listed_keep q.2.2⟩, by rw [g6, g8, g9, g10]; exact HVB.out⟩
            · injection ho with ho
              subst ho
              have d3 := hdep ⟨3, .data⟩ (by simp) rfl
              have d5 := hdep ⟨5, .data⟩ (by simp) rfl
              have g6 : (listed.setIfInBounds 6 true).getD 6 false = true := hself
              have g8 : (listed.setIfInBounds 6 true).getD 8 false = listed.getD 8 false := getD_set_ne _ (by decide)
              have g9 : (listed.setIfInBounds 6 true).getD 9 false = listed.getD 9 false := getD_set_ne _ (by decide)
              have g10 : (listed.setIfInBounds 6 true).getD 10 false = listed.getD 10 false := getD_set_ne _ (by decide)
              obtain rfl := f3 d3
              obtain rfl := f5 d5
              have n9 : listed.getD 9 false = false := by
                cases h : listed.getD 9 false with
                | false => rfl
                | true => have q := (o9 h).1; rw [hno] at q; cases q
              have n10 : listed.getD 10 false = false := by
                cases h : listed.getD 10 false with
                | false => rfl
                | true => have q := (o9 (oU h).2.2).1; rw [hno] at q; cases q
              rw [hno, n9, n10] at hvb
              obtain ⟨u6, hrun6, hvb6⟩ := hvb.look HG8.out (by omega) HPB.out
              refine vf_wpOpP_of rfl rfl ?_
              refine wp_lookup_run (.tmp 47) (.tmp 49) 88 rfl _ _ rfl rfl hrun6 ?_
              exact hK _ _ ⟨t44, t45, t46, _, t48, _, (u6), t51, t52, t53, rfl, by simpa using hsz, fun h => f0 (vf_listed_ne (by decide) h), fun h => f1 (vf_listed_ne (by decide) h), fun h => f2 (vf_listed_ne (by decide) h), fun h => f3 (vf_listed_ne (by decide) h), fun h => f4 (vf_listed_ne (by decide) h), fun h => f5 (vf_listed_ne (by decide) h), fun h => f7 (vf_listed_ne (by decide) h), fun _ => vf_listed_keep d5, fun h => by have q := o9 (vf_listed_ne (by decide) h); exact ⟨vf_listed_keep q.1, vf_listed_keep q.2⟩, fun h => by have q := oU (vf_listed_ne (by decide) h); exact ⟨vf_listed_keep q.1, vf_listed_keep q.2.1, vf_listed_keep q.2.2⟩, by rw [g6, g8, g9, g10, n9, n10]; exact hvb6⟩
            · injection ho with ho
              subst ho
              have g6 : (listed.setIfInBounds 7 true).getD 6 false = listed.getD 6 false := getD_set_ne _ (by decide)
              have g8 : (listed.setIfInBounds 7 true).getD 8 false = listed.getD 8 false := getD_set_ne _ (by decide)
              have g9 : (listed.setIfInBounds 7 true).getD 9 false = listed.getD 9 false := getD_set_ne _ (by decide)
              have g10 : (listed.setIfInBounds 7 true).getD 10 false = listed.getD 10 false := getD_set_ne _ (by decide)
              have HVB := Lib.hid hvb
              clear hi hdep hvb
              refine vf_wpOpP_of rfl rfl ?_
              go_simp
              exact hK _ _ ⟨t44, t45, t46, t47, t48, t49, t50, (.int .i64 (k : Int)), t52, t53, rfl, by simpa using hsz, fun h => f0 (vf_listed_ne (by decide) h), fun h => f1 (vf_listed_ne (by decide) h), fun h => f2 (vf_listed_ne (by decide) h), fun h => f3 (vf_listed_ne (by decide) h), fun h => f4 (vf_listed_ne (by decide) h), fun h => f5 (vf_listed_ne (by decide) h), fun _ => rfl, fun h => vf_listed_keep (o6 (vf_listed_ne (by decide) h)), fun h => by have q := o9 (vf_listed_ne (by decide) h); exact ⟨vf_listed_keep q.1, vf_listed_keep q.2⟩, fun h => by have q := oU (vf_listed_ne (by decide) h); exact ⟨vf_listed_keep q.1, vf_listed_keep q.2.1, vf_listed_keep q.2.2⟩, by rw [g6, g8, g9, g10]; exact HVB.out⟩
            · injection ho with ho
              subst ho
              have d7 := hdep ⟨7, .data⟩ (by simp) rfl
              have g6 : (listed.setIfInBounds 8 true).getD 6 false = listed.getD 6 false := getD_set_ne _ (by decide)
              have g8 : (listed.setIfInBounds 8 true).getD 8 false = true := hself
              have g9 : (listed.setIfInBounds 8 true).getD 9 false = listed.getD 9 false := getD_set_ne _ (by decide)
              have g10 : (listed.setIfInBounds 8 true).getD 10 false = listed.getD 10 false := getD_set_ne _ (by decide)
              obtain rfl := f7 d7
              have n9 : listed.getD 9 false = false := by
                cases h : listed.getD 9 false with
                | false => rfl
                | true => have q := (o9 h).2; rw [hno] at q; cases q
              have n10 : listed.getD 10 false = false := by
                cases h : listed.getD 10 false with
                | false => rfl
                | true => have q := (o9 (oU h).2.2).2; rw [hno] at q; cases q
              rw [hno, n9, n10] at hvb
              have HVB := Lib.hid hvb
              clear hi hdep hvb
              refine vf_wpOpP_of rfl rfl ?_
              go_simp
              exact hK _ _ ⟨t44, t45, t46, t47, t48, t49, t50, _, _, t53, rfl, by simpa using hsz, fun h => f0 (vf_listed_ne (by decide) h), fun h => f1 (vf_listed_ne (by decide) h), fun h => f2 (vf_listed_ne (by decide) h), fun h => f3 (vf_listed_ne (by decide) h), fun h => f4 (vf_listed_ne (by decide) h), fun h => f5 (vf_listed_ne (by decide) h), fun h => f7 (vf_listed_ne (by decide) h), fun h => vf_listed_keep (o6 (vf_listed_ne (by decide) h)), fun h => by have q := o9 (vf_listed_ne (by decide) h); exact ⟨vf_listed_keep q.1, vf_listed_keep q.2⟩, fun h => by have q := oU (vf_listed_ne (by decide) h); exact ⟨vf_listed_keep q.1, vf_listed_keep q.2.1, vf_listed_keep q.2.2⟩, by rw [g6, g8, g9, g10, n9, n10]; exact HVB.out.built⟩
            · injection ho with ho
              subst ho
              have d6 := hdep ⟨6, .data⟩ (by simp) rfl
              have d8 := hdep ⟨8, .data⟩ (by simp) rfl
              have g6 : (listed.setIfInBounds 9 true).getD 6 false = listed.getD 6 false := getD_set_ne _ (by decide)
              have g8 : (listed.setIfInBounds 9 true).getD 8 false = listed.getD 8 false := getD_set_ne _ (by decide)
              have g9 : (listed.setIfInBounds 9 true).getD 9 false = true := hself
              have g10 : (listed.setIfInBounds 9 true).getD 10 false = listed.getD 10 false := getD_set_ne _ (by decide)
              have n10 : listed.getD 10 false = false := by
                cases h : listed.getD 10 false with
                | false => rfl
                | true => have q := (oU h).2.2; rw [hno] at q; cases q
              rw [d6, d8, hno, n10] at hvb
              obtain ⟨v9, w9, hrun9, hvb9⟩ := hvb.appd HG8.out HZ8.out HV8.out (by omega) (by have := grpT_len S le p k; omega) 22
              refine vf_wpOpP_of rfl rfl ?_
              refine wp_append_run (.tmp 50) (.tmp 52) 22 22 rfl _ _ rfl rfl hrun9 ?_
              exact hK _ _ ⟨t44, t45, t46, t47, t48, t49, t50, t51, t52, (v9), rfl, by simpa using hsz, fun h => f0 (vf_listed_ne (by decide) h), fun h => f1 (vf_listed_ne (by decide) h), fun h => f2 (vf_listed_ne (by decide) h), fun h => f3 (vf_listed_ne (by decide) h), fun h => f4 (vf_listed_ne (by decide) h), fun h => f5 (vf_listed_ne (by decide) h), fun h => f7 (vf_listed_ne (by decide) h), fun h => vf_listed_keep (o6 (vf_listed_ne (by decide) h)), fun _ => ⟨vf_listed_keep d6, vf_listed_keep d8⟩, fun h => by have q := oU (vf_listed_ne (by decide) h); exact ⟨vf_listed_keep q.1, vf_listed_keep q.2.1, vf_listed_keep q.2.2⟩, by rw [g6, g8, g9, g10, d6, d8, n10]; exact hvb9⟩
            · injection ho with ho
              subst ho
              have d0 := hdep ⟨0, .data⟩ (by simp) rfl
              have d2 := hdep ⟨2, .data⟩ (by simp) rfl
              have d9 := hdep ⟨9, .data⟩ (by simp) rfl
              have g6 : (listed.setIfInBounds 10 true).getD 6 false = listed.getD 6 false := getD_set_ne _ (by decide)
              have g8 : (listed.setIfInBounds 10 true).getD 8 false = listed.getD 8 false := getD_set_ne _ (by decide)
              have g9 : (listed.setIfInBounds 10 true).getD 9 false = listed.getD 9 false := getD_set_ne _ (by decide)
              have g10 : (listed.setIfInBounds 10 true).getD 10 false = true := hself
              obtain rfl := f0 d0
              obtain rfl := f2 d2
              rw [(o9 d9).1, (o9 d9).2, d9, hno] at hvb
              obtain ⟨w9, hrun9, hvb9⟩ := hvb.upd HG8.out HZ8.out HV8.out
              refine vf_wpOpP_of rfl rfl ?_
              refine wp_mapUpdate_run (.tmp 44) (.tmp 46) (.tmp 53) 88 rfl _ _ _ rfl rfl rfl hrun9 ?_
              exact hK _ _ ⟨_, t45, _, t47, t48, t49, t50, t51, t52, t53, rfl, by simpa using hsz, fun h => f0 (vf_listed_ne (by decide) h), fun h => f1 (vf_listed_ne (by decide) h), fun h => f2 (vf_listed_ne (by decide) h), fun h => f3 (vf_listed_ne (by decide) h), fun h => f4 (vf_listed_ne (by decide) h), fun h => f5 (vf_listed_ne (by decide) h), fun h => f7 (vf_listed_ne (by decide) h), fun h => vf_listed_keep (o6 (vf_listed_ne (by decide) h)), fun h => by have q := o9 (vf_listed_ne (by decide) h); exact ⟨vf_listed_keep q.1, vf_listed_keep q.2⟩, fun _ => ⟨vf_listed_keep d0, vf_listed_keep d2, vf_listed_keep d9⟩, by rw [g6, g8, g9, g10, (o9 d9).1, (o9 d9).2, d9]; exact hvb9⟩
          case fin =>
            rintro listed a' w' ⟨t44, t45, t46, t47, t48, t49, t50, t51, t52, t53, rfl, hsz, f0, f1, f2, f3, f4, f5, f7, o6, o9, oU, hvb⟩ hr
            have hfull := vf_ready_full hsz hr (by kernel_rfl)
            have HF := Lib.hid (hvb.fin (hfull 10 (by decide)))
            clear hvb f0 f1 f2 f3 f4 f5 f7 o6 o9 oU hfull hr hsz
            have hb9 := HF.out.below HBW8.out (Nat.le_refl _) (by omega) (Nat.le_refl _)
            have ho9 := HF.out.row HO8.out (by omega)
            have HB9 := Lib.hid hb9
            have HO9 := Lib.hid ho9
            clear hb9 ho9
            go_wp2
            go_roundw
            case rel => exact ⟨k + 1, c + 1, by omega, by omega, by go_num, by rw [e1.out]; exact HF.out.1, by rw [e2.out]; first | (simpa [flatE] using HO9.out) | exact HO9.out, HB9.out, by obtain ⟨_, _, _, hsz9, _⟩ := HF.out; have := HZ8.out; omega⟩
            case measure => simp [intOf]; omega
        · have e2 := Lib.hid (prcT_no (le := le) HXX.out (by simp only [HQ.out]; simp [hq0]))
          have hql : ¬ q.length = 0 := fun h => hq0 (List.eq_nil_of_length_eq_zero h)
          have hql2 : ((q.length : Int) == 0) = false := by simp; omega
          go_upto_region 9 with fail
          have HB8 := Lib.hid HBX2.out
          have HG8 := Lib.hid HG2.out
          have HZ8 := Lib.hid (show w.heap.size + 1 ≤ w2.heap.size by omega)
          have HV8 := Lib.hid (show ∀ g, u4.ownBlock = some g → g < w2.heap.size from fun g hg => (HO2.out.lt g hg).2)
          have HO8 := Lib.hid HO2.out
          have HBW8 := Lib.hid HB2.out
          clear hrun x2
          refine wp_region_any (by kernel_rfl) ?_
          change wpAny _ _ _ _ _ _ _ (World.drew _)
          refine vf_anyP_inv (J := fun listed a' w' => ∃ t44 t45 t46 t47 t48 t49 t50 t51 t52 t53 : Value, a' = { tmps := #[.pointer (some ⟨sb, 0, none⟩), undef, .slice none 0 0, .map (some w.heap.size), u4, .int .i64 k, .pointer (some ⟨wr.heap.size, 0, none⟩), undef, undef, undef, .map (some w.heap.size), .pointer (some ⟨sb, 0, none⟩), .pointer (some ⟨sb, 0, none⟩), .pointer (some ⟨sb, 4, none⟩), .slice (some ⟨bb, off, none⟩) n sc, .int .i64 n, .int .i64 k, .bool true, .int .i64 k, .pointer (some ⟨bb, off + k * 5, none⟩), .agg #[.int .i64 bd, .int .i64 num, .int .i64 p, .int .i64 a, .bool false], .pointer (some ⟨wr.heap.size, 4, none⟩), .bool false, .bool false, .pointer (some ⟨wr.heap.size, 2, none⟩), .int .i64 p, .pointer (some ⟨sb, 0, none⟩), .pointer (some ⟨sb, 0, none⟩), .pointer (some ⟨sb, 0, none⟩), .pointer (some ⟨sb, 1, none⟩), .int .i64 le, .bool false, .bool false, .map (some w.heap.size), .pointer (some ⟨wr.heap.size, 2, none⟩), .int .i64 p, .slice ua q.length uc, .int .i64 (q.length : Int), .bool false, u39, u40, u41, u42, u43, t44, t45, t46, t47, t48, t49, t50, t51, t52, t53, u54, undef, undef, undef, undef, undef, undef, undef, undef, undef, undef, undef, undef, undef, undef, undef, undef], defers := [] } ∧ listed.size = 11 ∧ (listed.getD 0 false = true → t44 = .map (some w.heap.size)) ∧ (listed.getD 1 false = true → t45 = .pointer (some ⟨wr.heap.size, 2, none⟩)) ∧ (listed.getD 2 false = true → t46 = .int .i64 p) ∧ (listed.getD 3 false = true → t47 = .map (some w.heap.size)) ∧ (listed.getD 4 false = true → t48 = .pointer (some ⟨wr.heap.size, 2, none⟩)) ∧ (listed.getD 5 false = true → t49 = .int .i64 p) ∧ (listed.getD 7 false = true → t51 = .int .i64 (k : Int)) ∧ (listed.getD 6 false = true → listed.getD 5 false = true) ∧ (listed.getD 9 false = true → listed.getD 6 false = true ∧ listed.getD 8 false = true) ∧ (listed.getD 10 false = true → listed.getD 0 false = true ∧ listed.getD 2 false = true ∧ listed.getD 9 false = true) ∧ C9 w2 w.heap.size (w.heap.size + 1) c u4 (fun p => grpT S le p k) p (k : Int) wr.heap.size #[.int .i64 bd, .int .i64 num, .int .i64 p, .int .i64 a, .bool false] (listed.getD 6 false) (listed.getD 8 false) (listed.getD 9 false) (listed.getD 10 false) t50 t52 t53 w') ?step ?fin _ _ _ _ ⟨_, _, _, _, _, _, _, _, _, _, rfl, rfl, fun h => by simp at h, fun h => by simp at h, fun h => by simp at h, fun h => by simp at h, fun h => by simp at h, fun h => by simp at h, fun h => by simp at h, fun h => by simp at h, fun h => by simp at h, fun h => by simp at h, C9.start HB8.out (bdr brefl)⟩ (by decide)
          case step =>
            rintro listed a' w' ⟨t44, t45, t46, t47, t48, t49, t50, t51, t52, t53, rfl, hsz, f0, f1, f2, f3, f4, f5, f7, o6, o9, oU, hvb⟩ i hi K hK
            obtain ⟨hni, o, ho, hdep⟩ := mem_ready.1 hi
            have hin : i < 11 := (Array.getElem?_eq_some_iff.1 ho).1
            have hself := vf_listed_self hni
            have hno := vf_listed_no hni
            rcases (show i = 0 ∨ i = 1 ∨ i = 2 ∨ i = 3 ∨ i = 4 ∨ i = 5 ∨ i = 6 ∨ i = 7 ∨ i = 8 ∨ i = 9 ∨ i = 10 by omega) with rfl | rfl | rfl | rfl | rfl | rfl | rfl | rfl | rfl | rfl | rfl
            · injection ho with ho
              subst ho
              have g6 : (listed.setIfInBounds 0 true).getD 6 false = listed.getD 6 false := getD_set_ne _ (by decide)
              have g8 : (listed.setIfInBounds 0 true).getD 8 false = listed.getD 8 false := getD_set_ne _ (by decide)
              have g9 : (listed.setIfInBounds 0 true).getD 9 false = listed.getD 9 false := getD_set_ne _ (by decide)
              have g10 : (listed.setIfInBounds 0 true).getD 10 false = listed.getD 10 false := getD_set_ne _ (by decide)
              have HVB := Lib.hid hvb
              clear hi hdep hvb
              refine vf_wpOpP_of rfl rfl ?_
              go_simp
              exact hK _ _ ⟨(.map (some w.heap.size)), t45, t46, t47, t48, t49, t50, t51, t52, t53, rfl, by simpa using hsz, fun _ => rfl, fun h => f1 (vf_listed_ne (by decide) h), fun h => f2 (vf_listed_ne (by decide) h), fun h => f3 (vf_listed_ne (by decide) h), fun h => f4 (vf_listed_ne (by decide) h), fun h => f5 (vf_listed_ne (by decide) h), fun h => f7 (vf_listed_ne (by decide) h), fun h => vf_listed_keep (o6 (vf_listed_ne (by decide) h)), fun h => by have q := o9 (vf_listed_ne (by decide) h); exact ⟨vf_listed_keep q.1, vf_listed_keep q.2⟩, fun h => by have q := oU (vf_listed_ne (by decide) h); exact ⟨vf_listed_keep q.1, vf_listed_keep q.2.1, vf_listed_keep q.2.2⟩, by rw [g6, g8, g9, g10]; exact HVB.out⟩
            · injection ho with ho
              subst ho
              have g6 : (listed.setIfInBounds 1 true).getD 6 false = listed.getD 6 false := getD_set_ne _ (by decide)
              have g8 : (listed.setIfInBounds 1 true).getD 8 false = listed.getD 8 false := getD_set_ne _ (by decide)
              have g9 : (listed.setIfInBounds 1 true).getD 9 false = listed.getD 9 false := getD_set_ne _ (by decide)
              have g10 : (listed.setIfInBounds 1 true).getD 10 false = listed.getD 10 false := getD_set_ne _ (by decide)
              have HVB := Lib.hid hvb
              clear hi hdep hvb
              refine vf_wpOpP_of rfl rfl ?_
              go_simp
              exact hK _ _ ⟨t44, (.pointer (some ⟨wr.heap.size, 2, none⟩)), t46, t47, t48, t49, t50, t51, t52, t53, rfl, by simpa using hsz, fun h => f0 (vf_listed_ne (by decide) h), fun _ => rfl, fun h => f2 (vf_listed_ne (by decide) h), fun h => f3 (vf_listed_ne (by decide) h), fun h => f4 (vf_listed_ne (by decide) h), fun h => f5 (vf_listed_ne (by decide) h), fun h => f7 (vf_listed_ne (by decide) h), fun h => vf_listed_keep (o6 (vf_listed_ne (by decide) h)), fun h => by have q := o9 (vf_listed_ne (by decide) h); exact ⟨vf_listed_keep q.1, vf_listed_keep q.2⟩, fun h => by have q := oU (vf_listed_ne (by decide) h); exact ⟨vf_listed_keep q.1, vf_listed_keep q.2.1, vf_listed_keep q.2.2⟩, by rw [g6, g8, g9, g10]; exact HVB.out⟩
            · injection ho with ho
              subst ho
              have d1 := hdep ⟨1, .data⟩ (by simp) rfl
              have g6 : (listed.setIfInBounds 2 true).getD 6 false = listed.getD 6 false := getD_set_ne _ (by decide)
              have g8 : (listed.setIfInBounds 2 true).getD 8 false = listed.getD 8 false := getD_set_ne _ (by decide)
              have g9 : (listed.setIfInBounds 2 true).getD 9 false = listed.getD 9 false := getD_set_ne _ (by decide)
              have g10 : (listed.setIfInBounds 2 true).getD 10 false = listed.getD 10 false := getD_set_ne _ (by decide)
              obtain rfl := f1 d1
              have n10 : listed.getD 10 false = false := by
                cases h : listed.getD 10 false with
                | false => rfl
                | true => have q := (oU h).2.1; rw [hno] at q; cases q
              have k2 : w'.cell? ⟨wr.heap.size, 2, none⟩ = some (.int .i64 p) := cell_heap (hvb.cel n10) rfl
              have HVB := Lib.hid hvb
              clear hi hdep hvb
              refine vf_wpOpP_of rfl rfl ?_
              go_simp
              exact hK _ _ ⟨t44, _, (.int .i64 p), t47, t48, t49, t50, t51, t52, t53, rfl, by simpa using hsz, fun h => f0 (vf_listed_ne (by decide) h), fun h => f1 (vf_listed_ne (by decide) h), fun _ => rfl, fun h => f3 (vf_listed_ne (by decide) h), fun h => f4 (vf_listed_ne (by decide) h), fun h => f5 (vf_listed_ne (by decide) h), fun h => f7 (vf_listed_ne (by decide) h), fun h => vf_listed_keep (o6 (vf_listed_ne (by decide) h)), fun h => by have q := o9 (vf_listed_ne (by decide) h); exact ⟨vf_listed_keep q.1, vf_listed_keep q.2⟩, fun h => by have q := oU (vf_listed_ne (by decide) h); exact ⟨vf_listed_keep q.1, vf_listed_keep q.2.1, vf_listed_keep q.2.2⟩, by rw [g6, g8, g9, g10]; exact HVB.out⟩
            · injection ho with ho
              subst ho
              have g6 : (listed.setIfInBounds 3 true).getD 6 false = listed.getD 6 false := getD_set_ne _ (by decide)
              have g8 : (listed.setIfInBounds 3 true).getD 8 false = listed.getD 8 false := getD_set_ne _ (by decide)
              have g9 : (listed.setIfInBounds 3 true).getD 9 false = listed.getD 9 false := getD_set_ne _ (by decide)
              have g10 : (listed.setIfInBounds 3 true).getD 10 false = listed.getD 10 false := getD_set_ne _ (by decide)
              have HVB := Lib.hid hvb
              clear hi hdep hvb
              refine vf_wpOpP_of rfl rfl ?_
              go_simp
              exact hK _ _ ⟨t44, t45, t46, (.map (some w.heap.size)), t48, t49, t50, t51, t52, t53, rfl, by simpa using hsz, fun h => f0 (vf_listed_ne (by decide) h), fun h => f1 (vf_listed_ne (by decide) h), fun h => f2 (vf_listed_ne (by decide) h), fun _ => rfl, fun h => f4 (vf_listed_ne (by decide) h), fun h => f5 (vf_listed_ne (by decide) h), fun h => f7 (vf_listed_ne (by decide) h), fun h => vf_listed_keep (o6 (vf_listed_ne (by decide) h)), fun h => by have q := o9 (vf_listed_ne (by decide) h); exact ⟨vf_listed_keep q.1, vf_listed_keep q.2⟩, fun h => by have q := oU (vf_listed_ne (by decide) h); exact ⟨vf_listed_keep q.1, vf_listed_keep q.2.1, vf_listed_keep q.2.2⟩, by rw [g6, g8, g9, g10]; exact HVB.out⟩
            · injection ho with ho
              subst ho
              have g6 : (listed.setIfInBounds 4 true).getD 6 false = listed.getD 6 false := getD_set_ne _ (by decide)
              have g8 : (listed.setIfInBounds 4 true).getD 8 false = listed.getD 8 false := getD_set_ne _ (by decide)
              have g9 : (listed.setIfInBounds 4 true).getD 9 false = listed.getD 9 false := getD_set_ne _ (by decide)
              have g10 : (listed.setIfInBounds 4 true).getD 10 false = listed.getD 10 false := getD_set_ne _ (by decide)
              have HVB := Lib.hid hvb
              clear hi hdep hvb
              refine vf_wpOpP_of rfl rfl ?_
              go_simp
              exact hK _ _ ⟨t44, t45, t46, t47, (.pointer (some ⟨wr.heap.size, 2, none⟩)), t49, t50, t51, t52, t53, rfl, by simpa using hsz, fun h => f0 (vf_listed_ne (by decide) h), fun h => f1 (vf_listed_ne (by decide) h), fun h => f2 (vf_listed_ne (by decide) h), fun h => f3 (vf_listed_ne (by decide) h), fun _ => rfl, fun h => f5 (vf_listed_ne (by decide) h), fun h => f7 (vf_listed_ne (by decide) h), fun h => vf_listed_keep (o6 (vf_listed_ne (by decide) h)), fun h => by have q := o9 (vf_listed_ne (by decide) h); exact ⟨vf_listed_keep q.1, vf_listed_keep q.2⟩, fun h => by have q := oU (vf_listed_ne (by decide) h); exact ⟨vf_listed_keep q.1, vf_listed_keep q.2.1, vf_listed_keep q.2.2⟩, by rw [g6, g8, g9, g10]; exact HVB.out⟩
            · injection ho with ho
              subst ho
              have d4 := hdep ⟨4, .data⟩ (by simp) rfl
              have g6 : (listed.setIfInBounds 5 true).getD 6 false = listed.getD 6 false := getD_set_ne _ (by decide)
              have g8 : (listed.setIfInBounds 5 true).getD 8 false = listed.getD 8 false := getD_set_ne _ (by decide)
              have g9 : (listed.setIfInBounds 5 true).getD 9 false = listed.getD 9 false := getD_set_ne _ (by decide)
              have g10 : (listed.setIfInBounds 5 true).getD 10 false = listed.getD 10 false := getD_set_ne _ (by decide)
              obtain rfl := f4 d4
              have n10 : listed.getD 10 false = false := by
                cases h : listed.getD 10 false with
                | false => rfl
                | true => have q := o6 (o9 (oU h).2.2).1; rw [hno] at q; cases q
              have k2 : w'.cell? ⟨wr.heap.size, 2, none⟩ = some (.int .i64 p) := cell_heap (hvb.cel n10) rfl
              have HVB := Lib.hid hvb
              clear hi hdep hvb
              refine vf_wpOpP_of rfl rfl ?_
              go_simp
              exact hK _ _ ⟨t44, t45, t46, t47, _, (.int .i64 p), t50, t51, t52, t53, rfl, by simpa using hsz, fun h => f0 (vf_listed_ne (by decide) h), fun h => f1 (vf_listed_ne (by decide) h), fun h => f2 (vf_listed_ne (by decide) h), fun h => f3 (vf_listed_ne (by decide) h), fun h => f4 (vf_listed_ne (by decide) h), fun _ => rfl, fun h => f7 (vf_listed_ne (by decide) h), fun h => vf_listed_keep (o6 (vf_listed_ne (by decide) h)), fun h => by have q := o9 (vf_listed_ne (by decide) h); exact ⟨vf_listed_keep q.1, vf_listed_keep q.2⟩, fun h => by have q := oU (vf_listed_ne (by decide) h); exact ⟨vf_listed_keep q.1, vf_listed_keep q.2.1, vf_listed_keep q.2.2⟩, by rw [g6, g8, g9, g10]; exact HVB.out⟩
            · injection ho with ho
              subst ho
              have d3 := hdep ⟨3, .data⟩ (by simp) rfl
              have d5 := hdep ⟨5, .data⟩ (by simp) rfl
              have g6 : (listed.setIfInBounds 6 true).getD 6 false = true := hself
              have g8 : (listed.setIfInBounds 6 true).getD 8 false = listed.getD 8 false := getD_set_ne _ (by decide)
              have g9 : (listed.setIfInBounds 6 true).getD 9 false = listed.getD 9 false := getD_set_ne _ (by decide)
              have g10 : (listed.setIfInBounds 6 true).getD 10 false = listed.getD 10 false := getD_set_ne _ (by decide)
              obtain rfl := f3 d3
              obtain rfl := f5 d5
              have n9 : listed.getD 9 false = false := by
                cases h : listed.getD 9 false with
                | false => rfl
                | true => have q := (o9 h).1; rw [hno] at q; cases q
              have n10 : listed.getD 10 false = false := by
                cases h : listed.getD 10 false with
                | false => rfl
                | true => have q := (o9 (oU h).2.2).1; rw [hno] at q; cases q
              rw [hno, n9, n10] at hvb
              obtain ⟨u6, hrun6, hvb6⟩ := hvb.look HG8.out (by omega) HPB.out
              refine vf_wpOpP_of rfl rfl ?_
              refine wp_lookup_run (.tmp 47) (.tmp 49) 88 rfl _ _ rfl rfl hrun6 ?_
              exact hK _ _ ⟨t44, t45, t46, _, t48, _, (u6), t51, t52, t53, rfl, by simpa using hsz, fun h => f0 (vf_listed_ne (by decide) h), fun h => f1 (vf_listed_ne (by decide) h), fun h => f2 (vf_listed_ne (by decide) h), fun h => f3 (vf_listed_ne (by decide) h), fun h => f4 (vf_listed_ne (by decide) h), fun h => f5 (vf_listed_ne (by decide) h), fun h => f7 (vf_listed_ne (by decide) h), fun _ => vf_listed_keep d5, fun h => by have q := o9 (vf_listed_ne (by decide) h); exact ⟨vf_listed_keep q.1, vf_listed_keep q.2⟩, fun h => by have q := oU (vf_listed_ne (by decide) h); exact ⟨vf_listed_keep q.1, vf_listed_keep q.2.1, vf_listed_keep q.2.2⟩, by rw [g6, g8, g9, g10, n9, n10]; exact hvb6⟩
            · injection ho with ho
              subst ho
              have g6 : (listed.setIfInBounds 7 true).getD 6 false = listed.getD 6 false := getD_set_ne _ (by decide)
              have g8 : (listed.setIfInBounds 7 true).getD 8 false = listed.getD 8 false := getD_set_ne _ (by decide)
              have g9 : (listed.setIfInBounds 7 true).getD 9 false = listed.getD 9 false := getD_set_ne _ (by decide)
              have g10 : (listed.setIfInBounds 7 true).getD 10 false = listed.getD 10 false := getD_set_ne _ (by decide)
              have HVB := Lib.hid hvb
              clear hi hdep hvb
              refine vf_wpOpP_of rfl rfl ?_
              go_simp
              exact hK _ _ ⟨t44, t45, t46, t47, t48, t49, t50, (.int .i64 (k : Int)), t52, t53, rfl, by simpa using hsz, fun h => f0 (vf_listed_ne (by decide) h), fun h => f1 (vf_listed_ne (by decide) h), fun h => f2 (vf_listed_ne (by decide) h), fun h => f3 (vf_listed_ne (by decide) h), fun h => f4 (vf_listed_ne (by decide) h), fun h => f5 (vf_listed_ne (by decide) h), fun _ => rfl, fun h => vf_listed_keep (o6 (vf_listed_ne (by decide) h)), fun h => by have q := o9 (vf_listed_ne (by decide) h); exact ⟨vf_listed_keep q.1, vf_listed_keep q.2⟩, fun h => by have q := oU (vf_listed_ne (by decide) h); exact ⟨vf_listed_keep q.1, vf_listed_keep q.2.1, vf_listed_keep q.2.2⟩, by rw [g6, g8, g9, g10]; exact HVB.out⟩
            · injection ho with ho
              subst ho
              have d7 := hdep ⟨7, .data⟩ (by simp) rfl
              have g6 : (listed.setIfInBounds 8 true).getD 6 false = listed.getD 6 false := getD_set_ne _ (by decide)
              have g8 : (listed.setIfInBounds 8 true).getD 8 false = true := hself
              have g9 : (listed.setIfInBounds 8 true).getD 9 false = listed.getD 9 false := getD_set_ne _ (by decide)
              have g10 : (listed.setIfInBounds 8 true).getD 10 false = listed.getD 10 false := getD_set_ne _ (by decide)
              obtain rfl := f7 d7
              have n9 : listed.getD 9 false = false := by
                cases h : listed.getD 9 false with
                | false => rfl
                | true => have q := (o9 h).2; rw [hno] at q; cases q
              have n10 : listed.getD 10 false = false := by
                cases h : listed.getD 10 false with
                | false => rfl
                | true => have q := (o9 (oU h).2.2).2; rw [hno] at q; cases q
              rw [hno, n9, n10] at hvb
              have HVB := Lib.hid hvb
              clear hi hdep hvb
              refine vf_wpOpP_of rfl rfl ?_
              go_simp
              exact hK _ _ ⟨t44, t45, t46, t47, t48, t49, t50, _, _, t53, rfl, by simpa using hsz, fun h => f0 (vf_listed_ne (by decide) h), fun h => f1 (vf_listed_ne (by decide) h), fun h => f2 (vf_listed_ne (by decide) h), fun h => f3 (vf_listed_ne (by decide) h), fun h => f4 (vf_listed_ne (by decide) h), fun h => f5 (vf_listed_ne (by decide) h), fun h => f7 (vf_listed_ne (by decide) h), fun h => vf_listed_keep (o6 (vf_listed_ne (by decide) h)), fun h => by have q := o9 (vf_listed_ne (by decide) h); exact ⟨vf_listed_keep q.1, vf_listed_keep q.2⟩, fun h => by have q := oU (vf_listed_ne (by decide) h); exact ⟨vf_listed_keep q.1, vf_listed_keep q.2.1, vf_listed_keep q.2.2⟩, by rw [g6, g8, g9, g10, n9, n10]; exact HVB.out.built⟩
            · injection ho with ho
              subst ho
              have d6 := hdep ⟨6, .data⟩ (by simp) rfl
              have d8 := hdep ⟨8, .data⟩ (by simp) rfl
              have g6 : (listed.setIfInBounds 9 true).getD 6 false = listed.getD 6 false := getD_set_ne _ (by decide)
              have g8 : (listed.setIfInBounds 9 true).getD 8 false = listed.getD 8 false := getD_set_ne _ (by decide)
              have g9 : (listed.setIfInBounds 9 true).getD 9 false = true := hself
              have g10 : (listed.setIfInBounds 9 true).getD 10 false = listed.getD 10 false := getD_set_ne _ (by decide)
              have n10 : listed.getD 10 false = false := by
                cases h : listed.getD 10 false with
                | false => rfl
                | true => have q := (oU h).2.2; rw [hno] at q; cases q
              rw [d6, d8, hno, n10] at hvb
              obtain ⟨v9, w9, hrun9, hvb9⟩ := hvb.appd HG8.out HZ8.out HV8.out (by omega) (by have := grpT_len S le p k; omega) 22
              refine vf_wpOpP_of rfl rfl ?_
              refine wp_append_run (.tmp 50) (.tmp 52) 22 22 rfl _ _ rfl rfl hrun9 ?_
              exact hK _ _ ⟨t44, t45, t46, t47, t48, t49, t50, t51, t52, (v9), rfl, by simpa using hsz, fun h => f0 (vf_listed_ne (by decide) h), fun h => f1 (vf_listed_ne (by decide) h), fun h => f2 (vf_listed_ne (by decide) h), fun h => f3 (vf_listed_ne (by decide) h), fun h => f4 (vf_listed_ne (by decide) h), fun h => f5 (vf_listed_ne (by decide) h), fun h => f7 (vf_listed_ne (by decide) h), fun h => vf_listed_keep (o6 (vf_listed_ne (by decide) h)), fun _ => ⟨vf_listed_keep d6, vf_listed_keep d8⟩, fun h => by have q := oU (vf_listed_ne (by decide) h); exact ⟨vf_listed_keep q.1, vf_listed_keep q.2.1, vf_listed_keep q.2.2⟩, by rw [g6, g8, g9, g10, d6, d8, n10]; exact hvb9⟩
            · injection ho with ho
              subst ho
              have d0 := hdep ⟨0, .data⟩ (by simp) rfl
              have d2 := hdep ⟨2, .data⟩ (by simp) rfl
              have d9 := hdep ⟨9, .data⟩ (by simp) rfl
              have g6 : (listed.setIfInBounds 10 true).getD 6 false = listed.getD 6 false := getD_set_ne _ (by decide)
              have g8 : (listed.setIfInBounds 10 true).getD 8 false = listed.getD 8 false := getD_set_ne _ (by decide)
              have g9 : (listed.setIfInBounds 10 true).getD 9 false = listed.getD 9 false := getD_set_ne _ (by decide)
              have g10 : (listed.setIfInBounds 10 true).getD 10 false = true := hself
              obtain rfl := f0 d0
              obtain rfl := f2 d2
              rw [(o9 d9).1, (o9 d9).2, d9, hno] at hvb
              obtain ⟨w9, hrun9, hvb9⟩ := hvb.upd HG8.out HZ8.out HV8.out
              refine vf_wpOpP_of rfl rfl ?_
              refine wp_mapUpdate_run (.tmp 44) (.tmp 46) (.tmp 53) 88 rfl _ _ _ rfl rfl rfl hrun9 ?_
              exact hK _ _ ⟨_, t45, _, t47, t48, t49, t50, t51, t52, t53, rfl, by simpa using hsz, fun h => f0 (vf_listed_ne (by decide) h), fun h => f1 (vf_listed_ne (by decide) h), fun h => f2 (vf_listed_ne (by decide) h), fun h => f3 (vf_listed_ne (by decide) h), fun h => f4 (vf_listed_ne (by decide) h), fun h => f5 (vf_listed_ne (by decide) h), fun h => f7 (vf_listed_ne (by decide) h), fun h => vf_listed_keep (o6 (vf_listed_ne (by decide) h)), fun h => by have q := o9 (vf_listed_ne (by decide) h); exact ⟨vf_listed_keep q.1, vf_listed_keep q.2⟩, fun _ => ⟨vf_listed_keep d0, vf_listed_keep d2, vf_listed_keep d9⟩, by rw [g6, g8, g9, g10, (o9 d9).1, (o9 d9).2, d9]; exact hvb9⟩
          case fin =>
            rintro listed a' w' ⟨t44, t45, t46, t47, t48, t49, t50, t51, t52, t53, rfl, hsz, f0, f1, f2, f3, f4, f5, f7, o6, o9, oU, hvb⟩ hr
            have hfull := vf_ready_full hsz hr (by kernel_rfl)
            have HF := Lib.hid (hvb.fin (hfull 10 (by decide)))
            clear hvb f0 f1 f2 f3 f4 f5 f7 o6 o9 oU hfull hr hsz
            have hb9 := HF.out.below HBW8.out (Nat.le_refl _) (by omega) (Nat.le_refl _)
            have ho9 := HF.out.row HO8.out (by omega)
            have HB9 := Lib.hid hb9
            have HO9 := Lib.hid ho9
            clear hb9 ho9
            go_wp2
            go_roundw
            case rel => exact ⟨k + 1, c + 1, by omega, by omega, by go_num, by rw [e1.out]; exact HF.out.1, by rw [e2.out]; first | (simpa [flatE] using HO9.out) | exact HO9.out, HB9.out, by obtain ⟨_, _, _, hsz9, _⟩ := HF.out; have := HZ8.out; omega⟩
            case measure => simp [intOf]; omega
    · obtain rfl : n = k := by omega
      have hm12 := HPL.out
      obtain ⟨m, hm⟩ : ∃ m, (prcT S le n).length = m := ⟨_, rfl⟩
      have hms : (dsP (prcT S le n)).length = m := by unfold dsP; rw [srt_length]; exact hm
      obtain ⟨PD, hPD⟩ : ∃ PD, dsP (prcT S le n) = PD := ⟨_, rfl⟩
      have hPDb : ∀ q ∈ PD, 1 ≤ q ∧ q ≤ 200000 := by
        intro q hq
        rw [← hPD] at hq
        exact prcT_bd HOK.out n q ((srt_mem _ _).1 hq)
      have hM := HM.out
      rw [hPD] at hM hms
      have KS := sortF_own 56 #[] (fun a b => cmpI b a) (fun _ => True) (w.heap.size + 1) u4 (prcT S le n) wr HEG.out (fun W x y _ _ => cmp1_any x y W) dsP_wk (fun _ _ => trivial) hown hm12
      rw [show srt (ltc fun a b : Int => cmpI b a) (prcT S le n) = PD from hPD, hm] at KS
      have HKS := Lib.hid KS
      have HMM := Lib.hid hM
      have HOWN := Lib.hid hown
      have HGG := Lib.hid hG
      have HBR := Lib.hid hbr
      have HPB := Lib.hid hPDb
      have HMS := Lib.hid hms
      rw [hm] at hm12
      clear KS hM hown hG hbr hPDb hPD hms
      go_wp2_with fail
      refine HKS.out.mono ?_
      rintro e w5 ⟨rfl, ho5, hg5⟩
      have hG5 : GS w5 w.heap.size (w.heap.size + 1) u4 (fun p => grpT S le p n) c := HGG.out.kept hg5 (fun j hj => ⟨hj, (HOWN.out.lt j hj).1⟩)
      have hb5 : Below w.heap.size w w5 := HBR.out.grown hg5 zr (fun q hq => by have := (HOWN.out.lt q hq).1; omega)
      have hsh5 : w5.Shuns w.heap.size (fun g => w5.heap.size ≤ g) := by
        obtain ⟨D, ho, _⟩ := hG5.own
        exact hG5.sh.reno ho (fun g hg => .inr hg)
      have HG5 := Lib.hid hG5
      have HB5 := Lib.hid hb5
      have HSH5 := Lib.hid hsh5
      have z5 := hb5.size
      have z5' : w.heap.size + 1 ≤ w5.heap.size := by have := hg5.size; omega
      have HP5 := Lib.hid (Sl.own encI_len ho5 HMS.out (P := fun _ => True) (fun _ _ => trivial))
      obtain ⟨pa, pc, rfl⟩ := own_sl ho5
      clear ho5 hg5 hG5 hb5 hsh5
      go_wp2
      go_loopw [7, 59] (fun ov iv wq => ∃ (k : Nat) (us : List Value), k ≤ m ∧ us.length = k ∧ iv = .int .i64 k ∧ wq.ownsRow w5.heap.size 22 1 ov us.length (flatE encV us) ∧ RowsI (fun b => w.heap.size ≤ b ∧ b < w5.heap.size) wq us ((PD.take k).map fun p => grpT S le p n) ∧ Below w5.heap.size w5 wq) (fun _ iv _ => m - (intOf iv).toNat)
      case atStart => exact ⟨0, [], by omega, rfl, rfl, World.ownsRow_nil _ _ _ _, RowsI.nil, brefl⟩
      case round =>
        obtain ⟨k, us, hk2, hus, rfl, hown, hrow, hbr⟩ := hrel
        have zr2 := hbr.size
        by_cases hlt2 : k < m
        · obtain ⟨qb, qoff, q, rfl, -, hqb, hq, q0⟩ := (HP5.out.below hbr).int hlt2
          have hkz : (k : Int) < (m : Int) := by omega
          have hqq := HPB.out q (List.mem_of_getElem? hq)
          obtain ⟨u, hrun, hoi, hsu⟩ := (HG5.out.below hbr).look2 (HSH5.out.kept (row := none) ⟨hbr.os, hbr.tape, hbr.output, hbr.size, fun b hlt _ => hbr.block b hlt⟩ HG5.out.lt.1 (by simp)) (by omega) hqq
          have ht : (PD.take (k + 1)).map (fun p => grpT S le p n) = (PD.take k).map (fun p => grpT S le p n) ++ [grpT S le q n] := by rw [take_snocZ hq, List.map_append]; rfl
          have hSu : Sl 1 encI (fun b => w.heap.size ≤ b ∧ b < w5.heap.size) wr u (grpT S le q n) := (Sl.ownI (show wr.ownsRow (w.heap.size + 1) 3 1 u (grpT S le q n).length (flatE encI (grpT S le q n)) by rw [flatI]; exact hoi.1)).mono (fun b hb _ => ⟨by have := hb.2; omega, Nat.lt_of_not_le (hsu b hb.1)⟩)
          obtain ⟨ua, uc, rfl⟩ := own_sl hoi.1
          have HT := Lib.hid ht
          have HSU := Lib.hid hSu
          have HOW2 := Lib.hid hown
          have HROW := Lib.hid hrow
          have HBR2 := Lib.hid hbr
          clear ht hSu hown hrow hbr hoi hsu hq
          go_wp2_with (at_builtin; go_must (refine wpList_append_own _ rfl _ _ 69 rfl w5.heap.size 22 j1 (.slice none 0 0) 1 24 Try.underlying69 ji jz0 jz1 jz2 rfl (by decide) _ _ _ rfl (HOW2.out.alloc _) ⟨_, 0, none⟩ 1 1 (encV (.slice ua (grpT S le q n).length uc)) rfl rfl (newsL _ _ _) (by intro u hu; simp only [encV, List.mem_singleton] at hu; subst hu; rfl) (by unfold maxLen; omega) (by omega) (by simp; omega) ?_); intro v' w9 hown' hgrow _)
          go_roundw
          case rel => exact ⟨k + 1, us ++ [.slice ua (grpT S le q n).length uc], by omega, by simp; omega, by go_num, by rw [flatE_snoc, List.length_append]; exact hown', by rw [HT.out]; exact ((HROW.out.snoc HSU.out).below (bal brefl _)).low ((Below.refl _ _).grown hgrow (by simp; omega) (fun q hq => (HOW2.out.lt q hq).1)), (bal HBR2.out _).grown hgrow (by simp; omega) (fun q hq => (HOW2.out.lt q hq).1)⟩
          case measure => simp [intOf]; omega
        · obtain rfl : m = k := by omega
          have hMM := HMM.out
          rw [← List.take_of_length_le (show PD.length ≤ m by have := HMS.out; omega)] at hMM
          rw [hMM] at hrow
          have HFI := Lib.hid (show SlsI (fun b => w.heap.size ≤ b) wr u7 M from ⟨us, Sl.own encV_len hown rfl (fun b hb => by omega), hrow.mono (fun b hb _ => hb.1)⟩)
          have HBF := Lib.hid (HB5.out.trans (hbr.mono z5))
          clear hown hrow hbr hMM
          go_wp2
          go_ret
          exact ⟨_, rfl, HFI.out, HBF.out⟩
end Go.Proofs.Ytenbbmmbpjjjpaa
