/- slices.SortFunc at numbers, at most twelve of them: the insertion sort alone. Auction: the map from prices to the places of their bids. -/
import Derived.Test.YtenbbmmbpjjjpaaZSortF
import Derived.Test.YtenbbmmbpjjjpaaZAucD
import Derived.Maps.GroupsBeside
namespace Go.Proofs.Ytenbbmmbpjjjpaa
open Go.RowKit
set_option linter.unusedVariables false
set_option linter.unusedSimpArgs false
set_option maxRecDepth 100000 in
theorem len64_any (n : Nat) (h : n ≤ 12) (w : World) : Calls Try.prog 87 #[.int .u64 (n : Int)] w fun e w' => (∃ z : Int, e = .returned (.int .i64 z)) ∧ w' = w := by
  have h12 : n = 0 ∨ n = 1 ∨ n = 2 ∨ n = 3 ∨ n = 4 ∨ n = 5 ∨ n = 6 ∨ n = 7 ∨ n = 8 ∨ n = 9 ∨ n = 10 ∨ n = 11 ∨ n = 12 := by omega
  rcases h12 with rfl | rfl | rfl | rfl | rfl | rfl | rfl | rfl | rfl | rfl | rfl | rfl | rfl
  all_goals
    go_enter Try.func87, Try.ntmps87
    go_wp2
    go_ret
    exact ⟨⟨_, rfl⟩, rfl⟩
theorem len_any (n : Nat) (h : n ≤ 12) (w : World) : Calls Try.prog 69 #[.int .u64 (n : Int)] w fun e w' => (∃ z : Int, e = .returned (.int .i64 z)) ∧ w' = w := by
  have K := Lib.hid (fun U => len64_any n h U)
  go_enter Try.func69, Try.ntmps69
  go_wp2_with fail
  refine (K.out _).mono ?_
  rintro e w1 ⟨⟨z, rfl⟩, rfl⟩
  go_wp2
  go_ret
  exact ⟨⟨_, rfl⟩, rfl⟩
theorem insSort_nil (fv : Value) (w : World) : Calls Try.prog 78 #[.slice none 0 0, .int .i64 0, .int .i64 0, fv] w fun e w' => e = .returned (.tuple #[]) ∧ w' = w := by
  go_enter Try.func78, Try.ntmps78
  go_wp2
  refine wp_loop_rounds 1 ?_
  rw [rounds_succ]
  go_wp2
  go_end0
  exact ⟨rfl, rfl⟩
theorem pdq_nil (fv : Value) (z : Int) (w : World) : Calls Try.prog 68 #[.slice none 0 0, .int .i64 0, .int .i64 0, .int .i64 z, fv] w fun e w' => e = .returned (.tuple #[]) ∧ w' = w := by
  go_enter Try.func68, Try.ntmps68
  go_wp2
  refine wp_loop_rounds 1 ?_
  rw [rounds_succ]
  go_wp2_with fail
  refine (insSort_nil _ _).mono ?_
  rintro e w1 ⟨rfl, rfl⟩
  go_wp2
  refine bodyPost_ret (results_none rfl _ _ _) rfl ?_
  exact ⟨rfl, rfl⟩
theorem pdq_any (F : Nat) (cb : Array Value) (cf : Int → Int → Int) (Q : Int → Prop) (base g n cap : Nat) (L : List Int) (z : Int) (w : World)
    (eg : ∀ args w, (callFunc F args).run Try.prog w = .ok (.enter F args) w) (hcmp : Cmps F cb g cf Q w) (hW : Wk (ltc cf)) (hQ : ∀ x ∈ L, Q x)
    (hrow : RowI base g n cap L w) (hn : n ≤ 12) :
    Calls Try.prog 68 #[.slice (some ⟨g, 0, none⟩) n cap, .int .i64 0, .int .i64 n, .int .i64 z, .func (.func F) #[] cb] w fun e w' => e = .returned (.tuple #[]) ∧ RowI base g n cap (srt (ltc cf) L) w' ∧ w.grownBy w' (some g) := by
  have K := insSort_any F cb cf Q base g n cap 0 n [] L [] w eg hcmp hW hQ (by simpa using hrow) rfl (by have := hrow.2; omega) (by omega)
  simp only [List.nil_append, List.append_nil] at K
  have HK := Lib.hid K
  have hnz : (n : Int) ≤ 12 := by omega
  clear K hcmp hrow hQ hW eg
  go_enter Try.func68, Try.ntmps68
  go_wp2
  refine wp_loop_rounds 1 ?_
  rw [rounds_succ]
  go_wp2_with fail
  refine HK.out.mono ?_
  rintro e w1 ⟨rfl, hr, hg⟩
  have HR := Lib.hid (And.intro hr hg)
  clear hr hg
  go_wp2
  refine bodyPost_ret (results_none rfl _ _ _) rfl ?_
  exact ⟨rfl, HR.out.1, HR.out.2⟩
/-- any row of one's own of at most twelve numbers is sorted in place -/
theorem sortF_own (F : Nat) (cb : Array Value) (cf : Int → Int → Int) (Q : Int → Prop) (base : Nat) (v : Value) (L : List Int) (w : World)
    (eg : ∀ args w, (callFunc F args).run Try.prog w = .ok (.enter F args) w) (hcmp : ∀ W x y, Q x → Q y → Calls Try.prog F (#[.int .i64 x, .int .i64 y] ++ cb) W fun e w' => e = .returned (.int .i64 (cf x y)) ∧ w' = W) (hW : Wk (ltc cf)) (hQ : ∀ x ∈ L, Q x)
    (hown : w.ownsRow base 3 1 v L.length (flatE encI L)) (hn : L.length ≤ 12) :
    Calls Try.prog 55 #[v, .func (.func F) #[] cb] w fun e w' => e = .returned (.tuple #[]) ∧ w'.ownsRow base 3 1 v L.length (flatE encI (srt (ltc cf) L)) ∧ w.grownBy w' v.ownBlock := by
  have KL := Lib.hid (fun U => len_any L.length hn U)
  rcases hown.2 with ⟨rfl, h0⟩ | ⟨g, cap, cur, rfl, hbg, hg, -⟩
  · have hL : L = [] := List.eq_nil_of_length_eq_zero h0
    subst hL
    go_enter Try.func55, Try.ntmps55
    go_wp2_with fail
    refine (len_any 0 (by omega) _).mono ?_
    rintro e w1 ⟨⟨z, rfl⟩, rfl⟩
    go_wp2_with fail
    refine (pdq_nil _ _ _).mono ?_
    rintro e w2 ⟨rfl, rfl⟩
    go_wp2
    go_end0
    exact ⟨rfl, hown, grefl _ _⟩
  · obtain ⟨n, hnn⟩ : ∃ n, L.length = n := ⟨_, rfl⟩
    have KP := Lib.hid (fun z => pdq_any F cb cf Q base g n cap L z w eg (fun W _ x y hx hy => (hcmp W x y hx hy).mono fun e w' h => ⟨h.1, 0, h.2⟩) hW hQ ⟨by rw [← hnn, ← flatI]; exact hown, hnn⟩ (by omega))
    rw [hnn] at KL hn ⊢
    have HN := Lib.hid hnn
    clear hcmp hown hg hQ hW eg hnn
    go_enter Try.func55, Try.ntmps55
    go_wp2_with fail
    refine (KL.out _).mono ?_
    rintro e w1 ⟨⟨z, rfl⟩, rfl⟩
    go_wp2_with fail
    refine (KP.out z).mono ?_
    rintro e w2 ⟨rfl, hr, hg2⟩
    have HR := Lib.hid (And.intro hr hg2)
    clear hr hg2
    go_wp2
    go_end0
    exact ⟨rfl, by rw [flatI]; exact HR.out.1.1, HR.out.2⟩
end Go.Proofs.Ytenbbmmbpjjjpaa
namespace Go.Proofs.Ytenbbmmbpjjjpaa
open Go.RowKit Go.Maps Go.WideMaps Go.ChangeShapes
set_option linter.unusedVariables false
set_option linter.unusedSimpArgs false
theorem lawI : Keyed Try.prog 3 := int_keyed Try.underlying3
theorem keyI {p : Int} (hp : 1 ≤ p ∧ p ≤ 200000) : keyOf Try.prog 3 (.int .i64 p) = some (.int .i64 p) := keyOf_int_mk Try.underlying3 (WalkArith.wf_i64 (by omega))
theorem zeroSl (w : World) : (zeroValue 22).run Try.prog w = .ok (.slice none 0 0) w := by kernel_rfl
theorem lits_inj {q : IntKind} {a b : List Int} (h : (lits q a : List (DataW Unit)) = lits q b) : a = b := by
  unfold lits at h
  exact (List.map_inj_right (fun x y hxy => by simpa using hxy)).1 h
/-- a datum that reads as the lists of the prices -/
def DatG (D : DataW Unit) (grp : Int → List Int) : Prop :=
  IsMap D ∧ ∀ p, 1 ≤ p ∧ p ≤ 200000 → (grp p = [] ∧ D.atKey (.int .i64 p) .nil = .nil) ∨ (grp p ≠ [] ∧ D.atKey (.int .i64 p) .nil = .slice (lits .i64 (grp p)) [])
/-- block bm is the map from prices to places; no row of it is ov's -/
structure GS (w : World) (bm base : Nat) (ov : Value) (grp : Int → List Int) (c : Nat) : Prop where
  own : ∃ D : DataW Unit, w.ownsGroups Try.prog 3 base 3 .i64 bm c D ∧ DatG D grp
  sh : w.Shuns bm (fun g => ov.ownBlock = some g)
theorem GS.made (w : World) : GS (w.alloc (.map #[] 0)) w.heap.size (w.heap.size + 1) (.slice none 0 0) (fun _ => []) 0 :=
  ⟨⟨.map [], World.ownsGroups_made _ _ _ _ _, ⟨_, rfl⟩, fun p _ => .inl ⟨rfl, rfl⟩⟩, World.Shuns_made _ _⟩
theorem GS.lt {w : World} {bm base c : Nat} {ov : Value} {grp : Int → List Int} (h : GS w bm base ov grp c) : bm < w.heap.size ∧ bm < base := by
  obtain ⟨D, ⟨es, clock, hb, _, _, _, hbb, _⟩, _⟩ := h.own
  exact ⟨(Array.getElem?_eq_some_iff.1 hb).1, hbb⟩
theorem GS.kept {w w' : World} {bm base c : Nat} {ov : Value} {grp : Int → List Int} {row : Option Nat} (h : GS w bm base ov grp c) (hg : w.grownBy w' row) (hr : ∀ j, row = some j → ov.ownBlock = some j ∧ base ≤ j) : GS w' bm base ov grp c := by
  have hlt := h.lt
  have hne : some bm ≠ row := fun e => by have := (hr bm e.symm).2; omega
  obtain ⟨D, ho, hD⟩ := h.own
  exact ⟨⟨D, ho.kept hg hne (h.sh.rowsOff fun j hj => (hr j hj).1), hD⟩, h.sh.kept hg hlt.1 hne⟩
theorem GS.below {w w' : World} {bm base c : Nat} {ov : Value} {grp : Int → List Int} (h : GS w bm base ov grp c) (hb : Below w.heap.size w w') : GS w' bm base ov grp c :=
  h.kept (row := none) ⟨hb.os, hb.tape, hb.output, hb.size, fun b hlt _ => hb.block b hlt⟩ (fun j hj => by cases hj)
theorem GS.reno {w : World} {bm base c : Nat} {ov ov' : Value} {grp : Int → List Int} (h : GS w bm base ov grp c) (hn : ∀ g, ov'.ownBlock = some g → ov.ownBlock = some g ∨ w.heap.size ≤ g) : GS w bm base ov' grp c := by
  obtain ⟨D, ho, hD⟩ := h.own
  exact ⟨⟨D, ho, hD⟩, h.sh.reno ho hn⟩
def updG (grp : Int → List Int) (p : Int) (L : List Int) : Int → List Int := fun q => if q = p then L else grp q
theorem DatG.put {D : DataW Unit} {grp : Int → List Int} (h : DatG D grp) {p : Int} {L : List Int} (hL : L ≠ []) : DatG (D.put (.int .i64 p) (.slice (lits .i64 L) [])) (updG grp p L) := by
  refine ⟨h.1.put _ _, fun q hq => ?_⟩
  unfold updG
  by_cases e : q = p
  · subst e
    rw [if_pos rfl]
    exact .inr ⟨hL, atKey_put_same (k := .int .i64 q) h.1 (by simp [WideAt.IsKeyLit]) _ _⟩
  · rw [if_neg e, atKey_put_other (fun h => e (by simpa using h))]
    exact h.2 q hq
/-- the look-up, and the way back -/
theorem GS.look {w : World} {bm base c : Nat} {ov : Value} {grp : Int → List Int} (h : GS w bm base ov grp c) (hc : c < 1000) {p : Int} (hp : 1 ≤ p ∧ p ≤ 200000) :
    ∃ u, (Instr.lookup 88 (.map (some bm)) (.int .i64 p) false).run Try.prog w = .ok u w ∧ w.ownsInts base 3 .i64 u (grp p) ∧ (grp p).length ≤ c ∧ (∀ g, u.ownBlock = some g → ov.ownBlock ≠ some g) ∧
      ∀ (w1 : World) (v' : Value) (x : Int), w.grownBy w1 u.ownBlock → w1.ownsInts base 3 .i64 v' (grp p ++ [x]) → (v'.ownBlock = u.ownBlock ∨ ∃ g, v'.ownBlock = some g ∧ w.heap.size ≤ g) → (∀ g, v'.ownBlock = some g → ov.ownBlock ≠ some g) →
        ∃ w2, (Instr.mapUpdate 88 (.map (some bm)) (.int .i64 p) v').run Try.prog w1 = .ok () w2 ∧ GS w2 bm base ov (updG grp p (grp p ++ [x])) (c + 1) ∧ w1.grownBy w2 (some bm) := by
  obtain ⟨D, hown, hD⟩ := h.own
  have hsh := h.sh
  obtain ⟨v, zs, hrun, hat, hoi, hzl, hback⟩ := hown.at lawI Try.underlying88 (zeroSl _) (by unfold maxLen; omega) (keyI hp)
  have hzs : zs = grp p := by
    rcases hD.2 p hp with ⟨e1, e2⟩ | ⟨e1, e2⟩
    · rw [e2] at hat
      rcases hoi.datum (H := Unit) with ⟨_, e3⟩ | e3
      · rw [e3, e1]
      · rw [e3] at hat; cases hat
    · rw [e2] at hat
      rcases hoi.datum (H := Unit) with ⟨e3, _⟩ | e3
      · rw [e3] at hat; cases hat
      · rw [e3] at hat
        simp only [DataW.slice.injEq] at hat
        exact (lits_inj hat.1).symm
  subst hzs
  have hshu : ∀ g, v.ownBlock = some g → ov.ownBlock ≠ some g := by
    obtain ⟨es, clock, hb, F, _⟩ := hown
    rcases Maps.fit_look false lawI Try.underlying88 (zeroSl _) hb F (keyI hp) with ⟨hrun', _, _⟩ | ⟨e0, y, hm0, _, hrun', _, _, _⟩
    · rw [hrun] at hrun'
      obtain rfl : v = .slice none 0 0 := by simpa using hrun'
      intro g hg'
      cases hg'
    · rw [hrun] at hrun'
      obtain rfl : v = e0.val := by simpa using hrun'
      exact fun g hg' => hsh es clock hb e0 hm0 g hg'
  refine ⟨v, hrun, hoi, hzl, hshu, fun w1 v' x hgr hown' hloc hno => ?_⟩
  obtain ⟨w2, hrun2, r1, r2⟩ := hback w1 v' _ hgr hown' (by simp; omega) hloc
  refine ⟨w2, hrun2, ⟨⟨_, r1, ?_⟩, ?_⟩, r2⟩
  · rw [hown'.datum_pos (by simp)]
    exact hD.put (by simp)
  · obtain ⟨es, clock, hb, F, hs, _, hbb, _⟩ := hown
    have hblt : bm < w.heap.size := (Array.getElem?_eq_some_iff.1 hb).1
    have hb1 : w1.heap[bm]? = some (.map es clock) := (hgr.block bm hblt (fun e1 => by have := (hoi.1.lt bm e1.symm).1; omega)).trans hb
    obtain ⟨es', clock', hb2, hwho⟩ := stored_who lawI Try.underlying88 hb1 F (Nat.lt_of_le_of_lt hs (by unfold maxLen; omega)) (keyI hp) hrun2
    intro es2 clock2 hb2' y hy g hyg
    obtain ⟨rfl, rfl⟩ : es' = es2 ∧ clock' = clock2 := by rw [hb2] at hb2'; simpa using hb2'
    rcases hwho y hy with ⟨hy0, _⟩ | ⟨_, hval⟩
    · exact hsh es clock hb y hy0 g hyg
    · exact hno g (hval ▸ hyg)
end Go.Proofs.Ytenbbmmbpjjjpaa
