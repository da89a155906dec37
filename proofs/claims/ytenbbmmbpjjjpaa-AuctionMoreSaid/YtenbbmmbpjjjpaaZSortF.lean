/- slices.insertionSortCmpFunc, SortStableFunc's blocks, at []int. slices.swapRangeCmpFunc, rotateCmpFunc, at []int. slices.rotateCmpFunc, and symMergeCmpFunc's two short ways, at []int. slices.symMergeCmpFunc's short ways, at []int. slices.symMergeCmpFunc at []int. slices.stableCmpFunc and SortStableFunc at []int. -/
import Derived.Test.YtenbbmmbpjjjpaaZSortR
import Derived.Test.YtenbbmmbpjjjpaaZRegP
import Derived.Laws.OwnMore
import Derived.RegionTactic
import Derived.ChangeAlike
import Derived.BigRegion
import Derived.BigQuiet
import Derived.Shelf.Abstract
import Derived.Deep.DeepCutAuto
import Derived.Deep.CutRange
import Derived.Deep.CutBlock
namespace Go.Proofs.Ytenbbmmbpjjjpaa
open Go.RowKit
set_option linter.unusedVariables false
set_option linter.unusedSimpArgs false

/-- the function F, bound to cb, compares two numbers with Q wherever block g alone has turned -/
def Cmps (F : Nat) (cb : Array Value) (g : Nat) (cf : Int → Int → Int) (Q : Int → Prop) (w : World) : Prop :=
  ∀ W, w.grownBy W (some g) → ∀ x y, Q x → Q y → Calls Try.prog F (#[.int .i64 x, .int .i64 y] ++ cb) W fun e w' => e = .returned (.int .i64 (cf x y)) ∧ ∃ q, w' = W.drewN q
/-- 'x lies ahead of y', as the sort asks it -/
def ltc {α : Type} (cf : α → α → Int) (x y : α) : Bool := decide (cf x y < 0)
/-- the cells of a list of integers -/
def cI (x : Int) : Value := .int .i64 x
/-- the list L lies in the row of block g -/
def RowI (base g n cap : Nat) (L : List Int) (w : World) : Prop := w.ownsRow base 3 1 (.slice (some ⟨g, 0, none⟩) n cap) n (L.map cI) ∧ L.length = n
theorem gtrans {a b c : World} {x : Option Nat} (h : a.grownBy b x) (k : b.grownBy c x) : a.grownBy c x :=
  ⟨k.os.trans h.os, k.tape.trans h.tape, k.output.trans h.output, Nat.le_trans h.size k.size, fun i hi hx => (k.block i (Nat.lt_of_lt_of_le hi h.size) hx).trans (h.block i hi hx)⟩
theorem grefl (a : World) (x : Option Nat) : a.grownBy a x := ⟨rfl, rfl, rfl, Nat.le_refl _, fun _ _ _ => rfl⟩
theorem gdrew {a b : World} {x : Option Nat} (h : a.grownBy b x) (q : Nat) : a.grownBy (b.drewN q) x := ⟨h.os, h.tape, h.output, h.size, h.block⟩
theorem RowI.drewN {base g n cap : Nat} {L : List Int} {w : World} (h : RowI base g n cap L w) (q : Nat) : RowI base g n cap L (w.drewN q) := ⟨h.1, h.2⟩
theorem RowI.at_ {base g n cap : Nat} {L : List Int} {w : World} (h : RowI base g n cap L w) {j : Nat} {x : Int} (hx : L[j]? = some x) : w.cell? ⟨g, j, none⟩ = some (.int .i64 x) ∧ w.frozen? ⟨g, j, none⟩ = false := by
  have hj : j < n := by rw [← h.2]; exact (List.getElem?_eq_some_iff.1 hx).1
  refine ⟨?_, h.1.frozenAt j⟩
  rw [h.1.cellAt j (by omega), List.getElem?_map, hx]; rfl
theorem RowI.set {base g n cap : Nat} {L : List Int} {w : World} (h : RowI base g n cap L w) (j : Nat) (x : Int) : RowI base g n cap (L.set j x) (w.setCell ⟨g, j, none⟩ (.int .i64 x)) ∧ w.grownBy (w.setCell ⟨g, j, none⟩ (.int .i64 x)) (some g) := by
  have := h.1.stored j (.int .i64 x)
  refine ⟨⟨?_, by rw [List.length_set]; exact h.2⟩, this.2⟩
  rw [List.map_set]; exact this.1
/-- two stores: an exchange -/
theorem RowI.swap {base g n cap : Nat} {L : List Int} {w : World} (h : RowI base g n cap L w) (i j : Nat) (x y : Int) (q : Nat) :
    RowI base g n cap ((L.set i x).set j y) (((w.setCell ⟨g, i, none⟩ (.int .i64 x)).setCell ⟨g, j, none⟩ (.int .i64 y)).drewN q) ∧ w.grownBy (((w.setCell ⟨g, i, none⟩ (.int .i64 x)).setCell ⟨g, j, none⟩ (.int .i64 y)).drewN q) (some g) := by
  obtain ⟨h1, g1⟩ := h.set i x
  obtain ⟨h2, g2⟩ := h1.set j y
  exact ⟨h2.drewN q, gdrew (gtrans g1 g2) q⟩
theorem get_pair {α : Type} (P R : List α) (y x : α) : (P ++ y :: x :: R)[P.length]? = some y ∧ (P ++ y :: x :: R)[P.length + 1]? = some x := by
  constructor
  · simp
  · rw [List.getElem?_append_right (by omega)]; simp
theorem set_pair {α : Type} (P R : List α) (y x a b : α) : ((P ++ y :: x :: R).set (P.length + 1) a).set P.length b = P ++ b :: a :: R := by
  rw [List.set_append_right _ _ (by omega), List.set_append_right _ _ (by omega)]
  simp [show P.length + 1 - P.length = 1 by omega]
theorem set_pair' {α : Type} (P R : List α) (y x a b : α) : ((P ++ y :: x :: R).set P.length a).set (P.length + 1) b = P ++ a :: b :: R := by
  rw [List.set_append_right _ _ (by omega), List.set_append_right _ _ (by omega)]
  simp [show P.length + 1 - P.length = 1 by omega]
/-- an exchange of neighbours -/
theorem RowI.nbr {base g n cap : Nat} {P R : List Int} {y x : Int} {w : World} (h : RowI base g n cap (P ++ y :: x :: R) w) (q : Nat) {j jp : Nat} (hp : P.length = jp) (hj : j = jp + 1) :
    RowI base g n cap (P ++ x :: y :: R) (((w.setCell ⟨g, j, none⟩ (.int .i64 y)).setCell ⟨g, jp, none⟩ (.int .i64 x)).drewN q) ∧ w.grownBy (((w.setCell ⟨g, j, none⟩ (.int .i64 y)).setCell ⟨g, jp, none⟩ (.int .i64 x)).drewN q) (some g) := by
  subst hj hp
  have := h.swap (P.length + 1) P.length y x q
  rwa [set_pair] at this
theorem Cmps.on {F : Nat} {cb : Array Value} {g : Nat} {cf : Int → Int → Int} {Q : Int → Prop} {w w' : World} (h : Cmps F cb g cf Q w) (hg : w.grownBy w' (some g)) : Cmps F cb g cf Q w' :=
  fun W hW x y hx hy => h W (gtrans hg hW) x y hx hy

theorem snoc_cases {α : Type} (L : List α) : L = [] ∨ ∃ S y, L = S ++ [y] := by
  rcases List.eq_nil_or_concat L with h | ⟨S, y, h⟩
  · exact .inl h
  · exact .inr ⟨S, y, by rw [h, List.concat_eq_append]⟩
/-- the inner loop's list -/
def InIns (lt : Int → Int → Bool) (X S T : List Int) (x : Int) (j : Nat) (D : List Int) : Prop :=
  ∃ S1 S2, S = S1 ++ S2 ∧ j = X.length + S1.length ∧ D = X ++ S1 ++ x :: (S2 ++ T) ∧ ∀ y ∈ S2, lt x y = true
theorem InIns.out {lt : Int → Int → Bool} (H : Wk lt) {X S T : List Int} {x : Int} {j : Nat} {D : List Int} (h : InIns lt X S T x j D) (hS : Asc lt S) (hx : j = X.length ∨ ∃ y, D[j - 1]? = some y ∧ lt x y = false) : D = X ++ mrg lt S [x] ++ T := by
  obtain ⟨S1, S2, rfl, rfl, rfl, h2⟩ := h
  rw [mrg_put H hS h2]
  · simp
  · rcases snoc_cases S1 with rfl | ⟨S, y, rfl⟩
    · exact .inl rfl
    · refine .inr ⟨S, y, rfl, ?_⟩
      rcases hx with hx | ⟨z, hz, hlt⟩
      · simp at hx
      · have e : (X ++ (S ++ [y]) ++ x :: (S2 ++ T))[X.length + (S ++ [y]).length - 1]? = some y := by
          rw [List.getElem?_append_left (by simp), List.getElem?_append_right (by simp)]
          simp [show X.length + (S.length + 1) - 1 - X.length = S.length by omega]
        rw [e] at hz
        cases hz
        exact hlt
theorem InIns.step {lt : Int → Int → Bool} {X S T : List Int} {x : Int} {j : Nat} {D : List Int} (h : InIns lt X S T x j D) (hj : X.length < j) :
    ∃ P y R, D = P ++ y :: x :: R ∧ P.length + 1 = j ∧ (lt x y = true → InIns lt X S T x P.length (P ++ x :: y :: R)) := by
  obtain ⟨S1, S2, rfl, rfl, rfl, h2⟩ := h
  rcases snoc_cases S1 with rfl | ⟨S, y, rfl⟩
  · simp at hj
  · refine ⟨X ++ S, y, S2 ++ T, by simp, by simp; omega, fun hl => ⟨S, y :: S2, by simp, by simp, by simp, fun z hz => ?_⟩⟩
    rcases List.mem_cons.1 hz with rfl | hz
    · exact hl
    · exact h2 z hz
theorem InIns.mem {lt : Int → Int → Bool} {X S T : List Int} {x : Int} {j : Nat} {D : List Int} (h : InIns lt X S T x j D) {Q : Int → Prop} (hS : ∀ z ∈ S, Q z) (hj : X.length < j) {y : Int} (hy : D[j - 1]? = some y) : Q y := by
  obtain ⟨S1, S2, rfl, rfl, rfl, h2⟩ := h
  rw [List.getElem?_append_left (by simp; omega), List.getElem?_append_right (by omega)] at hy
  exact hS y (List.mem_append_left _ (List.mem_of_getElem? hy))

set_option maxHeartbeats 4000000 in
set_option maxRecDepth 100000 in
theorem insSort_any (F : Nat) (cb : Array Value) (cf : Int → Int → Int) (Q : Int → Prop) (base g n cap a b : Nat) (X A Y : List Int) (w : World)
    (eg : ∀ args w, (callFunc F args).run Try.prog w = .ok (.enter F args) w) (hcmp : Cmps F cb g cf Q w) (hW : Wk (ltc cf)) (hQ : ∀ x ∈ A, Q x)
    (hrow : RowI base g n cap (X ++ A ++ Y) w) (ha : X.length = a) (hb : a + A.length = b) (hn : n ≤ 1000000000) :
    Calls Try.prog 78 #[.slice (some ⟨g, 0, none⟩) n cap, .int .i64 a, .int .i64 b, .func (.func F) #[] cb] w fun e w' => e = .returned (.tuple #[]) ∧ RowI base g n cap (X ++ srt (ltc cf) A ++ Y) w' ∧ w.grownBy w' (some g) := by
  have hlen : X.length + A.length + Y.length = n := by have := hrow.2; simp at this; omega
  have hbn : b ≤ n := by omega
  have HC := Lib.hid hcmp
  have HQ := Lib.hid hQ
  have HA := Lib.hid ha
  have HB := Lib.hid hb
  have HW := Lib.hid hW
  have HR := Lib.hid hrow
  clear hcmp hQ hW hrow hlen ha
  go_enter Try.func78, Try.ntmps78
  go_wp2
  go_loopw [8] (fun iv wr => ∃ i : Nat, a + 1 ≤ i ∧ i ≤ b + 1 ∧ iv = .int .i64 i ∧ RowI base g n cap (X ++ srt (ltc cf) (A.take (i - a)) ++ (A.drop (i - a) ++ Y)) wr ∧ w.grownBy wr (some g)) (fun iv _ => (b + 1) - (intOf iv).toNat)
  case atStart =>
    refine ⟨a + 1, by omega, by omega, by go_num, ?_, grefl _ _⟩
    rw [show a + 1 - a = 1 by omega]
    have e : srt (ltc cf) (A.take 1) = A.take 1 := by
      cases A with
      | nil => rfl
      | cons x A => exact srt_one x
    rw [e, ← List.append_assoc, List.append_assoc X, List.take_append_drop]
    exact HR.out
  case round =>
    obtain ⟨i, hi1, hi2, rfl, hr, hg⟩ := hrel
    by_cases hlt : i < b
    · have hltz : (i : Int) < (b : Int) := by omega
      obtain ⟨x, hx⟩ : ∃ x, A[i - a]? = some x := ⟨_, List.getElem?_eq_getElem (by omega)⟩
      have hdrop := drop_cons hx
      have htake := take_snocZ hx
      have hxQ := HQ.out x (List.mem_of_getElem? hx)
      obtain ⟨S, hS⟩ : ∃ S, srt (ltc cf) (A.take (i - a)) = S := ⟨_, rfl⟩
      have hSl : S.length = i - a := by rw [← hS, srt_length, List.length_take]; omega
      have hSa : Asc (ltc cf) S := by rw [← hS]; exact srt_asc HW.out _
      have hSQ : ∀ z ∈ S, Q z := fun z hz => by rw [← hS] at hz; exact HQ.out z (List.mem_of_mem_take ((srt_mem _ _).1 hz))
      have hnext : srt (ltc cf) (A.take (i + 1 - a)) = mrg (ltc cf) S [x] := by rw [show i + 1 - a = i - a + 1 by omega, htake, srt_append HW.out, hS, srt_one]
      have hdrop' : A.drop (i + 1 - a) = A.drop (i - a + 1) := by rw [show i + 1 - a = i - a + 1 by omega]
      rw [hS, hdrop] at hr
      obtain ⟨T, hT⟩ : ∃ T, A.drop (i - a + 1) ++ Y = T := ⟨_, rfl⟩
      have hr' : RowI base g n cap (X ++ S ++ x :: T) wr := by rw [← hT]; exact hr
      have hstart : InIns (ltc cf) X S T x i (X ++ S ++ x :: T) := ⟨S, [], by simp, by have := HA.out; omega, by simp, by simp⟩
      have HN := Lib.hid hnext
      have HD := Lib.hid hdrop'
      have HT := Lib.hid hT
      have HS := Lib.hid hSa
      have HSQ := Lib.hid hSQ
      have HR' := Lib.hid hr'
      have HST := Lib.hid hstart
      have HG := Lib.hid hg
      clear hx hdrop htake hS hSl hSa hSQ hnext hdrop' hr hT hr' hstart hg
      go_wp2
      go_loopw [9] (fun jv wr => ∃ (j : Nat) (D : List Int), a ≤ j ∧ j ≤ i ∧ jv = .int .i64 j ∧ InIns (ltc cf) X S T x j D ∧ RowI base g n cap D wr ∧ w.grownBy wr (some g)) (fun jv _ => (intOf jv).toNat)
      case atStart => exact ⟨i, _, by omega, by omega, rfl, HST.out, HR'.out, HG.out⟩
      case round =>
        obtain ⟨j, D, hj1, hj2, rfl, hI, hrow, hgr⟩ := hrel
        have done : (j = a ∨ ∃ y, D[j - 1]? = some y ∧ ltc cf x y = false) → D = X ++ srt (ltc cf) (A.take (i + 1 - a)) ++ (A.drop (i + 1 - a) ++ Y) := fun h => by
          rw [HN.out, HD.out, HT.out]
          exact hI.out HW.out HS.out (h.imp (fun h => by rw [HA.out]; exact h) id)
        have DONE := Lib.hid done
        clear done
        by_cases hja : a < j
        · obtain ⟨P, y, R, hD, hP, hstep⟩ := hI.step (by rw [HA.out]; exact hja)
          have hyQ : Q y := hI.mem HSQ.out (by rw [HA.out]; exact hja) (y := y) (by rw [hD, show j - 1 = P.length by omega]; exact (get_pair P R y x).1)
          have hy1 : D[j - 1]? = some y := by rw [hD, show j - 1 = P.length by omega]; exact (get_pair P R y x).1
          obtain ⟨jp, hjp⟩ : ∃ jp, jp = P.length := ⟨_, rfl⟩
          rw [← hjp] at hP hstep
          obtain rfl : j = jp + 1 := by omega
          have HDD := Lib.hid hD
          rw [hD] at hrow
          obtain ⟨cp, fp⟩ := hrow.at_ (get_pair P R y x).1
          obtain ⟨cj, fj⟩ := hrow.at_ (get_pair P R y x).2
          rw [← hjp] at cp fp cj fj
          have jz : (jp : Int) + 1 < (n : Int) := by omega
          have jz1 : (jp : Int) < (n : Int) := by omega
          have p0 : (0 : Int) ≤ (jp : Int) + 1 := by omega
          have e0 : ((jp : Int) + 1).toNat = jp + 1 := by omega
          have hjaz : (a : Int) < (jp : Int) + 1 := by omega
          have hw1 : IntKind.i64.wrap (jp : Int) = (jp : Int) := by rw [IntKind.wrap_i64]; omega
          have hc := fun q => HC.out (wr.drewN q) (gdrew hgr q) x y hxQ hyQ
          obtain ⟨c, hcf⟩ : ∃ c, cf x y = c := ⟨_, rfl⟩
          simp only [hcf] at hc
          have HCF := Lib.hid hcf
          have HI := Lib.hid hI
          have HJP := Lib.hid hjp
          have HP := Lib.hid hP
          have HST2 := Lib.hid hstep
          have HROW := Lib.hid hrow
          have HGR := Lib.hid hgr
          have HY1 := Lib.hid hy1
          clear hcf hI hjp hstep hD hrow hgr hyQ hy1 hP
          by_cases hneg : c < 0
          · have hlt1 : ltc cf x y = true := by unfold ltc; rw [HCF.out]; exact decide_eq_true hneg
            have HL1 := Lib.hid hlt1
            clear hlt1
            go_wp2_with fail
            go_quiet ((go_at_fn F; exact Calls.quiet_of (hc _)))
            go_wp2_with fail
            have cp2 : (wr.drewN nq).cell? ⟨g, jp, none⟩ = some (.int .i64 y) := cp
            have cj2 : (wr.drewN nq).cell? ⟨g, jp + 1, none⟩ = some (.int .i64 x) := cj
            have fp2 : (wr.drewN nq).frozen? ⟨g, jp, none⟩ = false := fp
            have fj2 : (wr.drewN nq).frozen? ⟨g, jp + 1, none⟩ = false := fj
            have HROW2 := Lib.hid (HROW.out.drewN nq)
            have HGR2 := Lib.hid (gdrew HGR.out nq)
            clear cp cj fp fj hc HROW HGR
            generalize wr.drewN nq = wq at cp2 cj2 fp2 fj2 HROW2 HGR2 ⊢
            obtain ⟨j1, hj1⟩ : ∃ j1, j1 = jp + 1 := ⟨_, rfl⟩
            rw [← hj1] at cj2 fj2 e0
            have J1 := Lib.hid hj1
            clear hj1
            go_region
            all_goals go_wp2
            go_roundw
            case rel =>
              have hx := HROW2.out.nbr 1 HJP.out.symm J1.out
              exact ⟨jp, _, by omega, by omega, by first | rfl | go_num | (congr 1; omega), HST2.out HL1.out, hx.1, gtrans HGR2.out hx.2⟩
            case measure => simp [intOf]
          · have hlt1 : ltc cf x y = false := by unfold ltc; rw [HCF.out]; exact decide_eq_false hneg
            have hfin := DONE.out (.inr ⟨y, HY1.out, hlt1⟩)
            have HF := Lib.hid hfin
            have HRD := Lib.hid HI
            clear hlt1 hfin
            go_wp2_with fail
            go_quiet ((go_at_fn F; exact Calls.quiet_of (hc _)))
            go_wp2
            go_roundw
            case rel => exact ⟨i + 1, by omega, by omega, by go_num, by rw [← HF.out, HDD.out]; exact HROW.out.drewN nq, gdrew HGR.out nq⟩
            case measure => simp [intOf]; omega
        · obtain rfl : j = a := by omega
          have HF := Lib.hid (DONE.out (.inl rfl))
          have HROW := Lib.hid hrow
          have HGR := Lib.hid hgr
          clear DONE hI hrow hgr hja
          have hd : decide ((j : Int) < (j : Int)) = false := by simp
          go_wp2_with fail
          go_quiet (fail)
          go_wp2
          go_roundw
          case rel => exact ⟨i + 1, by omega, by omega, by go_num, by rw [← HF.out]; exact HROW.out.drewN nq, gdrew HGR.out nq⟩
          case measure => simp [intOf]; omega
    · have hd : ¬ (i : Int) < (b : Int) := by omega
      have hfin : X ++ srt (ltc cf) (A.take (i - a)) ++ (A.drop (i - a) ++ Y) = X ++ srt (ltc cf) A ++ Y := by
        rw [List.take_of_length_le (by have := HB.out; omega), List.drop_of_length_le (by have := HB.out; omega), List.nil_append]
      rw [hfin] at hr
      have HR2 := Lib.hid hr
      have HG2 := Lib.hid hg
      clear hfin hr hg
      go_wp2
      go_end0
      exact ⟨rfl, by simpa using HR2.out, HG2.out⟩
end Go.Proofs.Ytenbbmmbpjjjpaa
namespace Go.Proofs.Ytenbbmmbpjjjpaa
open Go.RowKit
set_option linter.unusedVariables false
set_option linter.unusedSimpArgs false

theorem get_at {α : Type} (P R : List α) (x : α) {j : Nat} (h : P.length = j) : (P ++ x :: R)[j]? = some x := by subst h; simp
/-- an exchange of two places -/
theorem set_two {α : Type} (P M R : List α) (x y a b : α) {i j : Nat} (hi : P.length = i) (hj : i + 1 + M.length = j) : ((P ++ x :: (M ++ y :: R)).set i a).set j b = P ++ a :: (M ++ b :: R) := by
  subst hi
  rw [List.set_append_right _ _ (by omega), Nat.sub_self, List.set_cons_zero, List.set_append_right _ _ (by omega), show j - P.length = (j - P.length - 1) + 1 by omega, List.set_cons_succ, List.set_append_right _ _ (by omega), show j - P.length - 1 - M.length = 0 by omega, List.set_cons_zero]
theorem RowI.two {base g n cap : Nat} {P M R : List Int} {x y : Int} {w : World} (h : RowI base g n cap (P ++ x :: (M ++ y :: R)) w) (q : Nat) {i j : Nat} (hi : P.length = i) (hj : i + 1 + M.length = j) :
    RowI base g n cap (P ++ y :: (M ++ x :: R)) (((w.setCell ⟨g, i, none⟩ (.int .i64 y)).setCell ⟨g, j, none⟩ (.int .i64 x)).drewN q) ∧ w.grownBy (((w.setCell ⟨g, i, none⟩ (.int .i64 y)).setCell ⟨g, j, none⟩ (.int .i64 x)).drewN q) (some g) := by
  have := h.swap i j y x q
  rwa [set_two P M R x y y x hi hj] at this
set_option maxHeartbeats 4000000 in
set_option maxRecDepth 100000 in
theorem swapR_any (fv : Value) (base g n cap a b k : Nat) (X U M V Y : List Int) (w : World)
    (hrow : RowI base g n cap (X ++ U ++ M ++ V ++ Y) w) (ha : X.length = a) (hU : U.length = k) (hb : a + k + M.length = b) (hV : V.length = k) (hn : n ≤ 1000000000) :
    Calls Try.prog 100 #[.slice (some ⟨g, 0, none⟩) n cap, .int .i64 a, .int .i64 b, .int .i64 k, fv] w fun e w' => e = .returned (.tuple #[]) ∧ RowI base g n cap (X ++ V ++ M ++ U ++ Y) w' ∧ w.grownBy w' (some g) := by
  have hlen : X.length + U.length + M.length + V.length + Y.length = n := by have := hrow.2; simp at this; omega
  have hbn : b + k ≤ n := by omega
  have hab : a + k ≤ b := by omega
  have HA := Lib.hid ha
  have HU := Lib.hid hU
  have HB := Lib.hid hb
  have HV := Lib.hid hV
  have HR := Lib.hid hrow
  clear hrow hlen ha hU hb hV
  go_enter Try.func100, Try.ntmps100
  go_wp2
  go_loopw [10] (fun iv wr => ∃ i : Nat, i ≤ k ∧ iv = .int .i64 i ∧ RowI base g n cap (X ++ V.take i ++ U.drop i ++ M ++ U.take i ++ V.drop i ++ Y) wr ∧ w.grownBy wr (some g)) (fun iv _ => k - (intOf iv).toNat)
  case atStart => exact ⟨0, by omega, rfl, by simpa using HR.out, grefl _ _⟩
  case round =>
    obtain ⟨i, hi, rfl, hr, hg⟩ := hrel
    by_cases hlt : i < k
    · obtain ⟨x, hx⟩ : ∃ x, U[i]? = some x := ⟨_, List.getElem?_eq_getElem (by have := HU.out; omega)⟩
      obtain ⟨y, hy⟩ : ∃ y, V[i]? = some y := ⟨_, List.getElem?_eq_getElem (by have := HV.out; omega)⟩
      have e1 : X ++ V.take i ++ U.drop i ++ M ++ U.take i ++ V.drop i ++ Y = (X ++ V.take i) ++ x :: ((U.drop (i + 1) ++ M ++ U.take i) ++ y :: (V.drop (i + 1) ++ Y)) := by
        rw [drop_cons hx, drop_cons hy]; simp
      have e2 : (X ++ V.take i) ++ y :: ((U.drop (i + 1) ++ M ++ U.take i) ++ x :: (V.drop (i + 1) ++ Y)) = X ++ V.take (i + 1) ++ U.drop (i + 1) ++ M ++ U.take (i + 1) ++ V.drop (i + 1) ++ Y := by
        rw [take_snocZ hx, take_snocZ hy]; simp
      obtain ⟨P, hP⟩ : ∃ P, X ++ V.take i = P := ⟨_, rfl⟩
      obtain ⟨M', hM⟩ : ∃ M', U.drop (i + 1) ++ M ++ U.take i = M' := ⟨_, rfl⟩
      obtain ⟨R, hR⟩ : ∃ R, V.drop (i + 1) ++ Y = R := ⟨_, rfl⟩
      have hPl : P.length = a + i := by rw [← hP, List.length_append, List.length_take]; have := HA.out; have := HV.out; omega
      have hMl : a + i + 1 + M'.length = b + i := by
        rw [← hM, List.length_append, List.length_append, List.length_take, List.length_drop]; have := HU.out; have := HB.out; omega
      rw [e1, hP, hM, hR] at hr
      rw [hP, hM, hR] at e2
      obtain ⟨cx, fx⟩ := hr.at_ (get_at P _ x hPl)
      obtain ⟨cy, fy⟩ := hr.at_ (j := b + i) (x := y) (by
        have := get_at (P ++ x :: M') R y (j := b + i) (by simp; omega)
        simpa using this)
      have HE := Lib.hid e2
      have HPL := Lib.hid hPl
      have HML := Lib.hid hMl
      have HROW := Lib.hid hr
      have HG := Lib.hid hg
      clear hx hy e1 e2 hP hM hR hPl hMl hr hg
      have z1 : (a : Int) + i < n := by omega
      have z2 : (b : Int) + i < n := by omega
      have q1 : (0 : Int) ≤ (a : Int) + i := by omega
      have q2 : (0 : Int) ≤ (b : Int) + i := by omega
      have t1 : ((a : Int) + i).toNat = a + i := by omega
      have t2 : ((b : Int) + i).toNat = b + i := by omega
      have v1 : IntKind.i64.wrap ((a : Int) + i) = (a : Int) + i := by rw [IntKind.wrap_i64]; omega
      have v2 : IntKind.i64.wrap ((b : Int) + i) = (b : Int) + i := by rw [IntKind.wrap_i64]; omega
      obtain ⟨p, hp⟩ : ∃ p, p = a + i := ⟨_, rfl⟩
      obtain ⟨r, hr⟩ : ∃ r, r = b + i := ⟨_, rfl⟩
      rw [← hp] at cx fx t1
      rw [← hr] at cy fy t2
      have hpr : p ≠ r := by omega
      have HPI := Lib.hid hp
      have HRI := Lib.hid hr
      clear hp hr
      go_wp2_with fail
      obtain ⟨u', hu'⟩ := cell?_setCell_some (w := wr) (p := ⟨g, p, none⟩) (x := .int .i64 y) (q := ⟨g, r, none⟩) (v := .int .i64 y) (by go_simp)
      go_region
      all_goals go_wp2
      go_roundw
      case rel =>
        have hx := HROW.out.two 1 HPL.out HML.out
        rw [← HPI.out, ← HRI.out] at hx
        exact ⟨i + 1, by omega, by go_num, by rw [← HE.out]; exact hx.1, gtrans HG.out hx.2⟩
      case measure => simp [intOf]; omega
    · have hd : ¬ (i : Int) < (k : Int) := by omega
      have hfin : X ++ V.take i ++ U.drop i ++ M ++ U.take i ++ V.drop i ++ Y = X ++ V ++ M ++ U ++ Y := by
        rw [List.take_of_length_le (by have := HV.out; omega), List.drop_of_length_le (by have := HU.out; omega), List.take_of_length_le (by have := HU.out; omega), List.drop_of_length_le (by have := HV.out; omega)]
        simp
      rw [hfin] at hr
      have HR2 := Lib.hid hr
      have HG2 := Lib.hid hg
      clear hfin hr hg
      go_wp2
      go_end0
      exact ⟨rfl, by simpa using HR2.out, HG2.out⟩
end Go.Proofs.Ytenbbmmbpjjjpaa
namespace Go.Proofs.Ytenbbmmbpjjjpaa
open Go.RowKit
set_option linter.unusedVariables false
set_option linter.unusedSimpArgs false

set_option maxHeartbeats 4000000 in
set_option maxRecDepth 100000 in
theorem rot_any (fv : Value) (base g n cap a m b : Nat) (X U V Y : List Int) (w : World)
    (hrow : RowI base g n cap (X ++ U ++ V ++ Y) w) (ha : X.length = a) (hm : a + U.length = m) (hb : m + V.length = b) (hU : 0 < U.length) (hV : 0 < V.length) (hn : n ≤ 1000000000) :
    Calls Try.prog 99 #[.slice (some ⟨g, 0, none⟩) n cap, .int .i64 a, .int .i64 m, .int .i64 b, fv] w fun e w' => e = .returned (.tuple #[]) ∧ RowI base g n cap (X ++ V ++ U ++ Y) w' ∧ w.grownBy w' (some g) := by
  have hlen : X.length + U.length + V.length + Y.length = n := by have := hrow.2; simp at this; omega
  have hbn : b ≤ n := by omega
  obtain ⟨i0, hi0⟩ : ∃ i0, U.length = i0 := ⟨_, rfl⟩
  obtain ⟨j0, hj0⟩ : ∃ j0, V.length = j0 := ⟨_, rfl⟩
  rw [hi0] at hm hU
  rw [hj0] at hb hV
  have e1 : (m : Int) - a = i0 := by omega
  have e2 : (b : Int) - m = j0 := by omega
  have HA := Lib.hid ha
  have HI := Lib.hid hi0
  have HJ := Lib.hid hj0
  have HR := Lib.hid hrow
  have HM := Lib.hid hm
  have HB := Lib.hid hb
  clear hrow hlen ha hi0 hj0
  go_enter Try.func99, Try.ntmps99
  go_wp2
  go_loopw [10, 11] (fun iv jv wr => ∃ (i j : Nat) (X' U' V' Y' : List Int), iv = .int .i64 i ∧ jv = .int .i64 j ∧ U'.length = i ∧ V'.length = j ∧ 0 < i ∧ 0 < j ∧ X'.length + i = m ∧ m + j ≤ n ∧ X' ++ V' ++ U' ++ Y' = X ++ V ++ U ++ Y ∧ RowI base g n cap (X' ++ U' ++ V' ++ Y') wr ∧ w.grownBy wr (some g)) (fun iv jv _ => (intOf iv).toNat + (intOf jv).toNat)
  case atStart => exact ⟨i0, j0, X, U, V, Y, rfl, rfl, HI.out, HJ.out, hU, hV, by have := HA.out; omega, by omega, rfl, HR.out, grefl _ _⟩
  case round =>
    obtain ⟨i, j, X', U', V', Y', rfl, rfl, hU', hV', hi, hj, hX, hmj, hL, hr, hg⟩ := hrel
    clear e1 e2
    obtain ⟨p, hp⟩ : ∃ p, X'.length = p := ⟨_, rfl⟩
    rw [hp] at hX
    have ep : (m : Int) - i = p := by omega
    have HP := Lib.hid hp
    have HU := Lib.hid hU'
    have HV := Lib.hid hV'
    have HX := Lib.hid hX
    have HL := Lib.hid hL
    have HR' := Lib.hid hr
    have HG := Lib.hid hg
    clear hp hU' hV' hX hL hr hg
    by_cases hij : i = j
    · subst hij
      have hc := fun W (hW : W = wr) => swapR_any fv base g n cap p m i X' U' [] V' Y' W (by rw [hW]; simpa using HR'.out) HP.out HU.out (by have := HX.out; simp; omega) HV.out hn
      have hne : ((i : Int) != (i : Int)) = false := by simp
      go_wp2_with (go_at_call 100; refine (hc _ rfl).mono ?_; rintro e w2 ⟨rfl, hr2, hg2⟩)
      go_end0
      refine ⟨rfl, ?_, gtrans HG.out hg2⟩
      have := HL.out
      simp only [List.append_nil, List.append_assoc] at hr2 this ⊢
      rw [← this]
      exact hr2
    · have hne : ((i : Int) == (j : Int)) = false := by simp; omega
      have hne2 : ((i : Int) != (j : Int)) = true := by simp; omega
      by_cases hgt : j < i
      · obtain ⟨U1, U2, hUU, hU1⟩ : ∃ U1 U2, U' = U1 ++ U2 ∧ U1.length = j := ⟨U'.take j, U'.drop j, (List.take_append_drop _ _).symm, by rw [List.length_take]; have := HU.out; omega⟩
        have hU2 : U2.length = i - j := by have := HU.out; rw [hUU, List.length_append] at this; omega
        have hc := fun W (hW : W = wr) => swapR_any fv base g n cap p m j X' U1 U2 V' Y' W (by rw [hW]; have := HR'.out; rw [hUU] at this; simpa using this) HP.out hU1 (by have := HX.out; omega) HV.out hn
        have hL' : (X' ++ V') ++ U1 ++ U2 ++ Y' = X ++ V ++ U ++ Y := by rw [← HL.out, hUU]; simp
        have HUU := Lib.hid hUU
        have HU1 := Lib.hid hU1
        have HU2 := Lib.hid hU2
        have HL' := Lib.hid hL'
        have es : (i : Int) - j = ((i - j : Nat) : Int) := by omega
        have hgz : (j : Int) < (i : Int) := by omega
        clear hUU hU1 hU2 hL'
        go_wp2_with (go_at_call 100; refine (hc _ rfl).mono ?_; rintro e w2 ⟨rfl, hr2, hg2⟩)
        have HR2 := Lib.hid hr2
        have HG2 := Lib.hid (gtrans HG.out hg2)
        clear hr2 hg2
        go_roundw
        case rel => exact ⟨i - j, j, X' ++ V', U2, U1, Y', by first | rfl | (congr 1; omega), rfl, HU2.out, HU1.out, by omega, by omega, by have := HX.out; have := HP.out; have := HV.out; simp; omega, by omega, HL'.out, by simpa using HR2.out, HG2.out⟩
        case measure => simp [intOf]; omega
      · obtain ⟨V1, V2, hVV, hV2⟩ : ∃ V1 V2, V' = V1 ++ V2 ∧ V2.length = i := ⟨V'.take (j - i), V'.drop (j - i), (List.take_append_drop _ _).symm, by rw [List.length_drop]; have := HV.out; omega⟩
        have hV1 : V1.length = j - i := by have := HV.out; rw [hVV, List.length_append] at this; omega
        have hc := fun W (hW : W = wr) => swapR_any fv base g n cap p (m + j - i) i X' U' V1 V2 Y' W (by rw [hW]; have := HR'.out; rw [hVV] at this; simpa using this) HP.out HU.out (by have := HX.out; omega) hV2 hn
        have hL' : X' ++ V1 ++ V2 ++ (U' ++ Y') = X ++ V ++ U ++ Y := by rw [← HL.out, hVV]; simp
        have HVV := Lib.hid hVV
        have HV1 := Lib.hid hV1
        have HV2 := Lib.hid hV2
        have HL' := Lib.hid hL'
        have es : (j : Int) - i = ((j - i : Nat) : Int) := by omega
        have es2 : (m : Int) + j - i = ((m + j - i : Nat) : Int) := by omega
        have hgz : ¬ (j : Int) < (i : Int) := by omega
        clear hVV hV1 hV2 hL'
        go_wp2_with (go_at_call 100; refine (hc _ rfl).mono ?_; rintro e w2 ⟨rfl, hr2, hg2⟩)
        have HR2 := Lib.hid hr2
        have HG2 := Lib.hid (gtrans HG.out hg2)
        clear hr2 hg2
        go_roundw
        case rel => exact ⟨i, j - i, X', V2, V1, U' ++ Y', rfl, by first | rfl | (congr 1; omega), HV2.out, HV1.out, by omega, by omega, by have := HX.out; have := HP.out; omega, by omega, HL'.out, by simpa using HR2.out, HG2.out⟩
        case measure => simp [intOf]; omega
end Go.Proofs.Ytenbbmmbpjjjpaa
namespace Go.Proofs.Ytenbbmmbpjjjpaa
open Go.RowKit
set_option linter.unusedVariables false
set_option linter.unusedSimpArgs false
section
variable {α : Type} {lt : α → α → Bool}
theorem asc_get (H : Wk lt) {B : List α} (hB : Asc lt B) {k l : Nat} {y z : α} (hkl : k ≤ l) (hy : B[k]? = some y) (hz : B[l]? = some z) : lt z y = false := by
  rcases Nat.lt_or_ge k l with h | h
  · obtain ⟨hk, rfl⟩ := List.getElem?_eq_some_iff.1 hy
    obtain ⟨hl, rfl⟩ := List.getElem?_eq_some_iff.1 hz
    exact (List.pairwise_iff_getElem.1 hB) k l hk hl h
  · have : k = l := by omega
    subst this
    rw [hy] at hz
    cases hz
    exact H.irr _
theorem mem_take' {B : List α} {i : Nat} {y : α} (h : y ∈ B.take i) : ∃ k, k < i ∧ B[k]? = some y := by
  obtain ⟨k, hk⟩ := List.mem_iff_getElem?.1 h
  have hl := (List.getElem?_eq_some_iff.1 hk).1
  rw [List.length_take] at hl
  rw [List.getElem?_take_of_lt (by omega)] at hk
  exact ⟨k, by omega, hk⟩
theorem mem_drop' {B : List α} {i : Nat} {y : α} (h : y ∈ B.drop i) : ∃ k, i ≤ k ∧ B[k]? = some y := by
  obtain ⟨k, hk⟩ := List.mem_iff_getElem?.1 h
  rw [List.getElem?_drop] at hk
  exact ⟨i + k, by omega, hk⟩
theorem asc_lo (H : Wk lt) {B : List α} (hB : Asc lt B) {x : α} {i : Nat} (h : i = 0 ∨ ∃ y, B[i - 1]? = some y ∧ lt y x = true) : ∀ y ∈ B.take i, lt y x = true := by
  intro y hy
  obtain ⟨k, hk, hk2⟩ := mem_take' hy
  rcases h with h | ⟨z, hz, hl⟩
  · omega
  · exact H.le_lt (asc_get H hB (show k ≤ i - 1 by omega) hk2 hz) hl
theorem asc_hi (H : Wk lt) {B : List α} (hB : Asc lt B) {x : α} {i : Nat} (h : B.length ≤ i ∨ ∃ y, B[i]? = some y ∧ lt y x = false) : ∀ y ∈ B.drop i, lt y x = false := by
  intro y hy
  obtain ⟨k, hk, hk2⟩ := mem_drop' hy
  rcases h with h | ⟨z, hz, hl⟩
  · have := (List.getElem?_eq_some_iff.1 hk2).1; omega
  · exact H.tr _ _ _ (asc_get H hB hk hz hk2) hl
theorem asc_lo' (H : Wk lt) {B : List α} (hB : Asc lt B) {x : α} {i : Nat} (h : i = 0 ∨ ∃ y, B[i - 1]? = some y ∧ lt x y = false) : ∀ y ∈ B.take i, lt x y = false := by
  intro y hy
  obtain ⟨k, hk, hk2⟩ := mem_take' hy
  rcases h with h | ⟨z, hz, hl⟩
  · omega
  · exact H.tr _ _ _ hl (asc_get H hB (show k ≤ i - 1 by omega) hk2 hz)
theorem asc_hi' (H : Wk lt) {B : List α} (hB : Asc lt B) {x : α} {i : Nat} (h : B.length ≤ i ∨ ∃ y, B[i]? = some y ∧ lt x y = true) : ∀ y ∈ B.drop i, lt x y = true := by
  intro y hy
  obtain ⟨k, hk, hk2⟩ := mem_drop' hy
  rcases h with h | ⟨z, hz, hl⟩
  · have := (List.getElem?_eq_some_iff.1 hk2).1; omega
  · exact H.lt_le hl (asc_get H hB hk hz hk2)
theorem mrg_put_back {S1 S2 : List α} {x : α} (h1 : ∀ y ∈ S1, lt x y = false) (h2 : ∀ y ∈ S2, lt x y = true) : mrg lt (S1 ++ S2) [x] = S1 ++ x :: S2 := by
  have e1 := mrg_append (lt := lt) S1 [] (A2 := S2) (B2 := [x]) (fun a ha b hb => by rw [List.mem_singleton.1 hb]; exact h1 a ha) (by simp)
  have e2 := mrg_append (lt := lt) [] [x] (A2 := S2) (B2 := ([] : List α)) (by simp) (fun a ha b hb => by rw [List.mem_singleton.1 hb]; exact h2 a ha)
  rw [List.nil_append, mrg_nil_r] at e1
  rw [List.nil_append, List.append_nil, mrg_nil_l, mrg_nil_r] at e2
  rw [e1, e2]; rfl
end
theorem half (i j : Nat) (h : i < j) : ∃ k : Nat, ((i : Int) + (j : Int)) / 2 = (k : Int) ∧ i ≤ k ∧ k < j := ⟨(i + j) / 2, by omega, by omega, by omega⟩

set_option maxHeartbeats 4000000 in
set_option maxRecDepth 100000 in
theorem symM_one (F : Nat) (cb : Array Value) (cf : Int → Int → Int) (Q : Int → Prop) (base g n cap a m b : Nat) (x : Int) (X B Y : List Int) (w : World)
    (eg : ∀ args w, (callFunc F args).run Try.prog w = .ok (.enter F args) w) (hcmp : Cmps F cb g cf Q w) (hW : Wk (ltc cf)) (hQx : Q x) (hQ : ∀ y ∈ B, Q y) (hB : Asc (ltc cf) B)
    (hrow : RowI base g n cap (X ++ x :: (B ++ Y)) w) (ha : X.length = a) (hm : m = a + 1) (hb : m + B.length = b) (hn : n ≤ 1000000000) :
    Calls Try.prog 97 #[.slice (some ⟨g, 0, none⟩) n cap, .int .i64 a, .int .i64 m, .int .i64 b, .func (.func F) #[] cb] w fun e w' => e = .returned (.tuple #[]) ∧ RowI base g n cap (X ++ mrg (ltc cf) [x] B ++ Y) w' ∧ w.grownBy w' (some g) := by
  have hlen : X.length + B.length + Y.length + 1 = n := by have := hrow.2; simp at this; omega
  have hbn : b ≤ n := by omega
  have hmb : m ≤ b := by omega
  have e1 : (m : Int) - a = 1 := by omega
  have HC := Lib.hid hcmp
  have HQ := Lib.hid hQ
  have HA := Lib.hid ha
  have HM := Lib.hid hm
  have HB := Lib.hid hb
  have HW := Lib.hid hW
  have HS := Lib.hid hB
  have HR := Lib.hid hrow
  have haz : (a : Int) < n := by omega
  have ham : a < m := by omega
  clear hcmp hQ hW hB hrow hlen ha hm hb
  go_enter Try.func97, Try.ntmps97
  go_wp2
  go_loopw [10, 11] (fun iv jv wr => ∃ i j : Nat, m ≤ i ∧ i ≤ j ∧ j ≤ b ∧ iv = .int .i64 i ∧ jv = .int .i64 j ∧ (i - m = 0 ∨ ∃ y, B[i - m - 1]? = some y ∧ ltc cf y x = true) ∧ (B.length ≤ j - m ∨ ∃ y, B[j - m]? = some y ∧ ltc cf y x = false) ∧ RowI base g n cap (X ++ x :: (B ++ Y)) wr ∧ w.grownBy wr (some g)) (fun iv jv _ => (intOf jv).toNat - (intOf iv).toNat)
  case atStart => exact ⟨m, b, by omega, hmb, by omega, rfl, rfl, .inl (by omega), .inl (by have := HB.out; omega), HR.out, grefl _ _⟩
  case round =>
    obtain ⟨i, j, hmi, hij, hjb, rfl, rfl, hlo, hhi, hr, hg⟩ := hrel
    clear e1
    by_cases hlt : i < j
    · obtain ⟨k, hk, hk1, hk2⟩ := half i j hlt
      obtain ⟨y, hy⟩ : ∃ y, B[k - m]? = some y := ⟨_, List.getElem?_eq_getElem (by have := HB.out; omega)⟩
      obtain ⟨cx, -⟩ := hr.at_ (get_at X (B ++ Y) x HA.out)
      obtain ⟨cy, -⟩ := hr.at_ (j := k) (x := y) (by
        rw [List.getElem?_append_right (by have := HA.out; have := HM.out; omega), show k - X.length = (k - m) + 1 by have := HA.out; have := HM.out; omega, List.getElem?_cons_succ, List.getElem?_append_left (by have := HB.out; omega)]
        exact hy)
      have hc := fun q => HC.out (wr.drewN q) (gdrew hg q) y x (HQ.out y (List.mem_of_getElem? hy)) hQx
      obtain ⟨c, hcf⟩ : ∃ c, cf y x = c := ⟨_, rfl⟩
      simp only [hcf] at hc
      have hkz : (k : Int) < n := by omega
      have HCF := Lib.hid hcf
      have HLO := Lib.hid hlo
      have HHI := Lib.hid hhi
      have HY := Lib.hid hy
      have HROW := Lib.hid hr
      have HG := Lib.hid hg
      clear hcf hlo hhi hy hr hg
      by_cases hneg : c < 0
      all_goals
        go_wp2_with fail
        go_quiet ((go_at_fn F; exact Calls.quiet_of (hc _)))
        go_wp2
        go_roundw
        case rel => first
          | exact ⟨k + 1, j, by omega, by omega, by omega, by go_num, rfl, .inr ⟨y, by rw [show k + 1 - m - 1 = k - m by omega]; exact HY.out, by unfold ltc; rw [HCF.out]; exact decide_eq_true hneg⟩, HHI.out, HROW.out.drewN nq, gdrew HG.out nq⟩
          | exact ⟨i, k, by omega, by omega, by omega, rfl, rfl, HLO.out, .inr ⟨y, HY.out, by unfold ltc; rw [HCF.out]; exact decide_eq_false (by omega)⟩, HROW.out.drewN nq, gdrew HG.out nq⟩
        case measure => simp [intOf]; omega
    · obtain rfl : i = j := by omega
      have h1 := asc_lo HW.out HS.out hlo
      have h2 := asc_hi HW.out HS.out hhi
      obtain ⟨B1, hB1⟩ : ∃ B1, B.take (i - m) = B1 := ⟨_, rfl⟩
      obtain ⟨B2, hB2⟩ : ∃ B2, B.drop (i - m) = B2 := ⟨_, rfl⟩
      have hBB : B = B1 ++ B2 := by rw [← hB1, ← hB2, List.take_append_drop]
      have hl1 : B1.length = i - m := by rw [← hB1, List.length_take]; have := HB.out; omega
      rw [hB1] at h1
      rw [hB2] at h2
      have hfin : X ++ mrg (ltc cf) [x] B ++ Y = X ++ B1 ++ x :: (B2 ++ Y) := by rw [hBB, mrg_put_front h1 h2]; simp
      rw [hBB] at hr
      have HF := Lib.hid hfin
      have HL1 := Lib.hid hl1
      have HROW := Lib.hid hr
      have HG := Lib.hid hg
      clear h1 h2 hB1 hB2 hBB hl1 hfin hr hg hlo hhi
      go_wp2
      go_loopw [13] (fun kv wr => ∃ k : Nat, a ≤ k ∧ k + 1 ≤ i ∧ kv = .int .i64 k ∧ RowI base g n cap (X ++ B1.take (k - a) ++ x :: (B1.drop (k - a) ++ (B2 ++ Y))) wr ∧ w.grownBy wr (some g)) (fun kv _ => i - (intOf kv).toNat)
      case atStart => exact ⟨a, by omega, by omega, rfl, by rw [Nat.sub_self]; simpa using HROW.out, HG.out⟩
      case round =>
        obtain ⟨k, hk1, hk2, rfl, hr, hg⟩ := hrel
        have hM := HM.out
        by_cases hki : k + 1 < i
        · obtain ⟨y, hy⟩ : ∃ y, B1[k - a]? = some y := ⟨_, List.getElem?_eq_getElem (by have := HL1.out; omega)⟩
          rw [drop_cons hy, show k - a + 1 = k + 1 - a by omega] at hr
          obtain ⟨P, hP⟩ : ∃ P, X ++ B1.take (k - a) = P := ⟨_, rfl⟩
          obtain ⟨R, hR⟩ : ∃ R, B1.drop (k + 1 - a) ++ (B2 ++ Y) = R := ⟨_, rfl⟩
          have hPl : P.length = k := by rw [← hP, List.length_append, List.length_take]; have := HA.out; have := HL1.out; omega
          have e2 : P ++ y :: x :: R = X ++ B1.take (k + 1 - a) ++ x :: (B1.drop (k + 1 - a) ++ (B2 ++ Y)) := by
            rw [← hP, ← hR, show k + 1 - a = k - a + 1 by omega, take_snocZ hy]; simp
          rw [hP, List.cons_append, hR] at hr
          obtain ⟨ck, fk⟩ := hr.at_ (hPl ▸ (get_pair P R x y).1)
          obtain ⟨ck1, fk1⟩ := hr.at_ (hPl ▸ (get_pair P R x y).2)
          have z1 : (k : Int) + 1 < n := by omega
          have z0 : (k : Int) < n := by omega
          have q1 : (0 : Int) ≤ (k : Int) + 1 := by omega
          have t1 : ((k : Int) + 1).toNat = k + 1 := by omega
          have v1 : IntKind.i64.wrap ((k : Int) + 1) = (k : Int) + 1 := by rw [IntKind.wrap_i64]; omega
          have w1 : (k : Int) < (i : Int) - 1 := by omega
          have HE := Lib.hid e2
          have HPL := Lib.hid hPl
          have HROW2 := Lib.hid hr
          have HG2 := Lib.hid hg
          clear hy e2 hP hR hPl hr hg hM
          obtain ⟨k1, hk1'⟩ : ∃ k1, k1 = k + 1 := ⟨_, rfl⟩
          rw [← hk1'] at ck1 fk1 t1
          have hne : k ≠ k1 := by omega
          have HK1 := Lib.hid hk1'
          clear hk1'
          go_wp2_with fail
          go_region
          all_goals go_wp2
          go_roundw
          case rel =>
            have hx := HROW2.out.swap k k1 y x 1
            rw [HK1.out] at hx
            rw [show (((P ++ x :: y :: R).set k y).set (k + 1) x) = P ++ y :: x :: R by rw [← HPL.out]; exact set_pair' P R x y y x] at hx
            rw [← HK1.out] at hx
            exact ⟨k + 1, by omega, by omega, by go_num, by rw [← HE.out]; exact hx.1, gtrans HG2.out hx.2⟩
          case measure => simp [intOf]; omega
        · have w1 : ¬ (k : Int) < (i : Int) - 1 := by omega
          have hfin2 : X ++ B1.take (k - a) ++ x :: (B1.drop (k - a) ++ (B2 ++ Y)) = X ++ mrg (ltc cf) [x] B ++ Y := by
            rw [HF.out, List.take_of_length_le (by have := HL1.out; omega), List.drop_of_length_le (by have := HL1.out; omega)]; simp
          rw [hfin2] at hr
          have HR2 := Lib.hid hr
          have HG2 := Lib.hid hg
          clear hfin2 hr hg hM
          go_wp2
          (try simp only [Exit.inBlock, Exit.then])
          refine bodyPost_ret (results_none rfl _ _ _) rfl ?_
          exact ⟨rfl, by simpa using HR2.out, HG2.out⟩
set_option maxHeartbeats 4000000 in
set_option maxRecDepth 100000 in
theorem symM_last (F : Nat) (cb : Array Value) (cf : Int → Int → Int) (Q : Int → Prop) (base g n cap a m b : Nat) (x : Int) (X A Y : List Int) (w : World)
    (eg : ∀ args w, (callFunc F args).run Try.prog w = .ok (.enter F args) w) (hcmp : Cmps F cb g cf Q w) (hW : Wk (ltc cf)) (hQx : Q x) (hQ : ∀ y ∈ A, Q y) (hA : Asc (ltc cf) A) (hA2 : A.length ≠ 1) (hA0 : 0 < A.length)
    (hrow : RowI base g n cap (X ++ A ++ x :: Y) w) (ha : X.length = a) (hm : a + A.length = m) (hb : b = m + 1) (hn : n ≤ 1000000000) :
    Calls Try.prog 97 #[.slice (some ⟨g, 0, none⟩) n cap, .int .i64 a, .int .i64 m, .int .i64 b, .func (.func F) #[] cb] w fun e w' => e = .returned (.tuple #[]) ∧ RowI base g n cap (X ++ mrg (ltc cf) A [x] ++ Y) w' ∧ w.grownBy w' (some g) := by
  have hlen : X.length + A.length + Y.length + 1 = n := by have := hrow.2; simp at this; omega
  have hbn : b ≤ n := by omega
  have ham : a < m := by omega
  have e0 : (((m : Int) - a) == 1) = false := by simp; omega
  have e1 : (b : Int) - m = 1 := by omega
  have HC := Lib.hid hcmp
  have HQ := Lib.hid hQ
  have HA := Lib.hid ha
  have HM := Lib.hid hm
  have HB := Lib.hid hb
  have HW := Lib.hid hW
  have HS := Lib.hid hA
  have HR := Lib.hid hrow
  have hmz : (m : Int) < n := by omega
  have hmb : m < b := by omega
  clear hcmp hQ hW hA hrow hlen ha hm hb hA2 hA0
  go_enter Try.func97, Try.ntmps97
  go_wp2
  go_loopw [14, 15] (fun iv jv wr => ∃ i j : Nat, a ≤ i ∧ i ≤ j ∧ j ≤ m ∧ iv = .int .i64 i ∧ jv = .int .i64 j ∧ (i - a = 0 ∨ ∃ y, A[i - a - 1]? = some y ∧ ltc cf x y = false) ∧ (A.length ≤ j - a ∨ ∃ y, A[j - a]? = some y ∧ ltc cf x y = true) ∧ RowI base g n cap (X ++ A ++ x :: Y) wr ∧ w.grownBy wr (some g)) (fun iv jv _ => (intOf jv).toNat - (intOf iv).toNat)
  case atStart => exact ⟨a, m, by omega, by omega, by omega, rfl, rfl, .inl (by omega), .inl (by have := HM.out; omega), HR.out, grefl _ _⟩
  case round =>
    obtain ⟨i, j, hmi, hij, hjb, rfl, rfl, hlo, hhi, hr, hg⟩ := hrel
    clear e1
    by_cases hlt : i < j
    · obtain ⟨k, hk, hk1, hk2⟩ := half i j hlt
      obtain ⟨y, hy⟩ : ∃ y, A[k - a]? = some y := ⟨_, List.getElem?_eq_getElem (by have := HM.out; omega)⟩
      obtain ⟨cx, -⟩ := hr.at_ (get_at (X ++ A) Y x (j := m) (by have := HM.out; have := HA.out; simp; omega))
      obtain ⟨cy, -⟩ := hr.at_ (j := k) (x := y) (by
        rw [List.getElem?_append_left (by have := HM.out; have := HA.out; simp; omega), List.getElem?_append_right (by have := HA.out; omega), HA.out]
        exact hy)
      have hc := fun q => HC.out (wr.drewN q) (gdrew hg q) x y hQx (HQ.out y (List.mem_of_getElem? hy))
      obtain ⟨c, hcf⟩ : ∃ c, cf x y = c := ⟨_, rfl⟩
      simp only [hcf] at hc
      have hkz : (k : Int) < n := by omega
      have HCF := Lib.hid hcf
      have HLO := Lib.hid hlo
      have HHI := Lib.hid hhi
      have HY := Lib.hid hy
      have HROW := Lib.hid hr
      have HG := Lib.hid hg
      clear hcf hlo hhi hy hr hg
      rcases (show decide (c < 0) = true ∨ decide (c < 0) = false by cases decide (c < 0) <;> simp) with hneg | hneg
      all_goals
        go_wp2_with fail
        go_quiet ((go_at_fn F; exact Calls.quiet_of (hc _)))
        go_wp2
        go_roundw
        case rel => first
          | exact ⟨k + 1, j, by omega, by omega, by omega, by go_num, rfl, .inr ⟨y, by rw [show k + 1 - a - 1 = k - a by omega]; exact HY.out, by unfold ltc; rw [HCF.out]; first | exact hneg | exact decide_eq_false (by omega)⟩, HHI.out, HROW.out.drewN nq, gdrew HG.out nq⟩
          | exact ⟨i, k, by omega, by omega, by omega, rfl, rfl, HLO.out, .inr ⟨y, HY.out, by unfold ltc; rw [HCF.out]; first | exact hneg | exact decide_eq_true hneg⟩, HROW.out.drewN nq, gdrew HG.out nq⟩
        case measure => simp [intOf]; omega
    · obtain rfl : i = j := by omega
      have h1 := asc_lo' HW.out HS.out hlo
      have h2 := asc_hi' HW.out HS.out hhi
      obtain ⟨A1, hA1⟩ : ∃ A1, A.take (i - a) = A1 := ⟨_, rfl⟩
      obtain ⟨A2, hA2⟩ : ∃ A2, A.drop (i - a) = A2 := ⟨_, rfl⟩
      have hAA : A = A1 ++ A2 := by rw [← hA1, ← hA2, List.take_append_drop]
      have hl1 : A1.length = i - a := by rw [← hA1, List.length_take]; have := HM.out; omega
      have hl2 : A2.length = m - i := by rw [← hA2, List.length_drop]; have := HM.out; omega
      rw [hA1] at h1
      rw [hA2] at h2
      have hfin : X ++ mrg (ltc cf) A [x] ++ Y = X ++ A1 ++ x :: (A2 ++ Y) := by rw [hAA, mrg_put_back h1 h2]; simp
      rw [hAA] at hr
      have HF := Lib.hid hfin
      have HL1 := Lib.hid hl1
      have HL2 := Lib.hid hl2
      have HROW := Lib.hid hr
      have HG := Lib.hid hg
      clear h1 h2 hA1 hA2 hAA hl1 hl2 hfin hr hg hlo hhi
      go_wp2
      go_loopw [17] (fun kv wr => ∃ k : Nat, i ≤ k ∧ k ≤ m ∧ kv = .int .i64 k ∧ RowI base g n cap (X ++ A1 ++ A2.take (k - i) ++ x :: (A2.drop (k - i) ++ Y)) wr ∧ w.grownBy wr (some g)) (fun kv _ => (intOf kv).toNat)
      case atStart => exact ⟨m, by omega, by omega, rfl, by rw [List.take_of_length_le (by have := HL2.out; omega), List.drop_of_length_le (by have := HL2.out; omega)]; simpa using HROW.out, HG.out⟩
      case round =>
        obtain ⟨k, hk1, hk2, rfl, hr, hg⟩ := hrel
        by_cases hki : i < k
        · obtain ⟨kp, rfl⟩ : ∃ kp, k = kp + 1 := ⟨k - 1, by omega⟩
          obtain ⟨y, hy⟩ : ∃ y, A2[kp - i]? = some y := ⟨_, List.getElem?_eq_getElem (by have := HL2.out; omega)⟩
          obtain ⟨P, hP⟩ : ∃ P, X ++ A1 ++ A2.take (kp - i) = P := ⟨_, rfl⟩
          obtain ⟨R, hR⟩ : ∃ R, A2.drop (kp - i + 1) ++ Y = R := ⟨_, rfl⟩
          have hPl : P.length = kp := by rw [← hP, List.length_append, List.length_append, List.length_take]; have := HA.out; have := HL1.out; have := HL2.out; omega
          have e2 : P ++ x :: y :: R = X ++ A1 ++ A2.take (kp - i) ++ x :: (A2.drop (kp - i) ++ Y) := by
            rw [← hP, ← hR, drop_cons hy]; simp
          have e3 : X ++ A1 ++ A2.take (kp + 1 - i) ++ x :: (A2.drop (kp + 1 - i) ++ Y) = P ++ y :: x :: R := by
            rw [← hP, ← hR, show kp + 1 - i = kp - i + 1 by omega, take_snocZ hy]; simp
          rw [e3] at hr
          obtain ⟨ck, fk⟩ := hr.at_ (hPl ▸ (get_pair P R y x).1)
          obtain ⟨ck1, fk1⟩ := hr.at_ (hPl ▸ (get_pair P R y x).2)
          have z1 : (kp : Int) + 1 < n := by omega
          have z0 : (kp : Int) < n := by omega
          have q1 : (0 : Int) ≤ (kp : Int) + 1 := by omega
          have t1 : ((kp : Int) + 1).toNat = kp + 1 := by omega
          have v1 : IntKind.i64.wrap (kp : Int) = (kp : Int) := by rw [IntKind.wrap_i64]; omega
          have w1 : (i : Int) < (kp : Int) + 1 := by omega
          have HE := Lib.hid e2
          have HPL := Lib.hid hPl
          have HROW2 := Lib.hid hr
          have HG2 := Lib.hid hg
          clear hy e2 e3 hP hR hPl hr hg
          obtain ⟨k1, hk1'⟩ : ∃ k1, k1 = kp + 1 := ⟨_, rfl⟩
          rw [← hk1'] at ck1 fk1 t1
          have hne : k1 ≠ kp := by omega
          have HK1 := Lib.hid hk1'
          clear hk1'
          go_wp2_with fail
          go_region
          all_goals go_wp2
          go_roundw
          case rel =>
            have hx := HROW2.out.nbr 1 HPL.out HK1.out
            exact ⟨kp, by omega, by omega, by first | rfl | go_num, by rw [← HE.out]; exact hx.1, gtrans HG2.out hx.2⟩
          case measure => simp [intOf]
        · have w1 : ¬ (i : Int) < (k : Int) := by omega
          have hfin2 : X ++ A1 ++ A2.take (k - i) ++ x :: (A2.drop (k - i) ++ Y) = X ++ mrg (ltc cf) A [x] ++ Y := by
            rw [HF.out, show k - i = 0 by omega]; simp
          rw [hfin2] at hr
          have HR2 := Lib.hid hr
          have HG2 := Lib.hid hg
          clear hfin2 hr hg
          go_wp2
          (try simp only [Exit.inBlock, Exit.then])
          refine bodyPost_ret (results_none rfl _ _ _) rfl ?_
          exact ⟨rfl, by simpa using HR2.out, HG2.out⟩
end Go.Proofs.Ytenbbmmbpjjjpaa
namespace Go.Proofs.Ytenbbmmbpjjjpaa
open Go.RowKit
set_option linter.unusedVariables false
set_option linter.unusedSimpArgs false
theorem mrg_cut {α : Type} {lt : α → α → Bool} (H : Wk lt) {A B : List α} (hA : Asc lt A) (hB : Asc lt B) {i j : Nat}
    (h1 : i = 0 ∨ B.length ≤ j ∨ ∃ x y, A[i - 1]? = some x ∧ B[j]? = some y ∧ lt y x = false) (h2 : A.length ≤ i ∨ j = 0 ∨ ∃ x y, A[i]? = some x ∧ B[j - 1]? = some y ∧ lt y x = true) :
    mrg lt A B = mrg lt (A.take i) (B.take j) ++ mrg lt (A.drop i) (B.drop j) := by
  have := mrg_append (lt := lt) (A.take i) (B.take j) (A2 := A.drop i) (B2 := B.drop j) (fun x hx y hy => by
    obtain ⟨k, hk, hk2⟩ := mem_take' hx
    obtain ⟨l, hl, hl2⟩ := mem_drop' hy
    rcases h1 with h1 | h1 | ⟨u, v, hu, hv, huv⟩
    · omega
    · have := (List.getElem?_eq_some_iff.1 hl2).1; omega
    · exact H.tr _ _ _ (H.tr _ _ _ (asc_get H hB hl hv hl2) huv) (asc_get H hA (show k ≤ i - 1 by omega) hk2 hu)) (fun x hx y hy => by
    obtain ⟨k, hk, hk2⟩ := mem_drop' hx
    obtain ⟨l, hl, hl2⟩ := mem_take' hy
    rcases h2 with h2 | h2 | ⟨u, v, hu, hv, huv⟩
    · have := (List.getElem?_eq_some_iff.1 hk2).1; omega
    · omega
    · exact H.lt_le (H.le_lt (asc_get H hB (show l ≤ j - 1 by omega) hl2 hv) huv) (asc_get H hA hk hu hk2))
  rw [List.take_append_drop, List.take_append_drop] at this
  exact this
theorem mrg_disj {α : Type} {lt : α → α → Bool} {A B : List α} (h : A = [] ∨ B = []) : mrg lt A B = A ++ B := by
  rcases h with rfl | rfl
  · rw [mrg_nil_l]; rfl
  · rw [mrg_nil_r]; simp
/-- what symMergeCmpFunc does with parts that have at most N elements together -/
def SymM (F : Nat) (cb : Array Value) (cf : Int → Int → Int) (Q : Int → Prop) (base g n cap N : Nat) : Prop :=
    ∀ (a m b : Nat) (X A B Y : List Int) (w : World), b - a ≤ N → Cmps F cb g cf Q w → (∀ y ∈ A, Q y) → (∀ y ∈ B, Q y) → Asc (ltc cf) A → Asc (ltc cf) B → 0 < A.length → 0 < B.length →
    RowI base g n cap (X ++ A ++ B ++ Y) w → X.length = a → a + A.length = m → m + B.length = b →
    Calls Try.prog 97 #[.slice (some ⟨g, 0, none⟩) n cap, .int .i64 a, .int .i64 m, .int .i64 b, .func (.func F) #[] cb] w fun e w' => e = .returned (.tuple #[]) ∧ RowI base g n cap (X ++ mrg (ltc cf) A B ++ Y) w' ∧ w.grownBy w' (some g)
set_option maxHeartbeats 8000000 in
set_option maxRecDepth 100000 in
theorem symM_step (F : Nat) (cb : Array Value) (cf : Int → Int → Int) (Q : Int → Prop) (base g n cap N : Nat) (eg : ∀ args w, (callFunc F args).run Try.prog w = .ok (.enter F args) w) (hW : Wk (ltc cf)) (hn : n ≤ 1000000000) (ih : SymM F cb cf Q base g n cap N)
    (a m b : Nat) (X A B Y : List Int) (w : World) (hN : b - a ≤ N + 1) (hcmp : Cmps F cb g cf Q w) (hQA : ∀ y ∈ A, Q y) (hQB : ∀ y ∈ B, Q y) (hA : Asc (ltc cf) A) (hB : Asc (ltc cf) B) (hA0 : 0 < A.length) (hB0 : 0 < B.length)
    (hrow : RowI base g n cap (X ++ A ++ B ++ Y) w) (ha : X.length = a) (hm : a + A.length = m) (hb : m + B.length = b) :
    Calls Try.prog 97 #[.slice (some ⟨g, 0, none⟩) n cap, .int .i64 a, .int .i64 m, .int .i64 b, .func (.func F) #[] cb] w fun e w' => e = .returned (.tuple #[]) ∧ RowI base g n cap (X ++ mrg (ltc cf) A B ++ Y) w' ∧ w.grownBy w' (some g) := by
    by_cases hA1 : A.length = 1
    · obtain ⟨x, rfl⟩ := List.length_eq_one_iff.1 hA1
      exact symM_one F cb cf Q base g n cap a m b x X B Y w eg hcmp hW (hQA x (by simp)) hQB hB (by simpa using hrow) ha (by simp at hm; omega) hb hn
    by_cases hB1 : B.length = 1
    · obtain ⟨x, rfl⟩ := List.length_eq_one_iff.1 hB1
      exact symM_last F cb cf Q base g n cap a m b x X A Y w eg hcmp hW (hQB x (by simp)) hQA hA hA1 hA0 (by simpa using hrow) ha hm (by simp at hb; omega) hn
    have hlen : X.length + A.length + B.length + Y.length = n := by have := hrow.2; simp at this; omega
    have hbn : b ≤ n := by omega
    have ham : a + 2 ≤ m := by omega
    have hmb : m + 2 ≤ b := by omega
    have e0 : (((m : Int) - a) == 1) = false := by simp; omega
    have e1 : (((b : Int) - m) == 1) = false := by simp; omega
    obtain ⟨mid, hmid, hmd1, hmd2⟩ : ∃ k : Nat, ((a : Int) + (b : Int)) / 2 = (k : Int) ∧ 2 * k ≤ a + b ∧ a + b ≤ 2 * k + 1 := ⟨(a + b) / 2, by omega, by omega, by omega⟩
    have HW := Lib.hid hW
    have HC := Lib.hid hcmp
    have HIH := Lib.hid ih
    have HQA := Lib.hid hQA
    have HQB := Lib.hid hQB
    have HA := Lib.hid ha
    have HM := Lib.hid hm
    have HB := Lib.hid hb
    have HSA := Lib.hid hA
    have HSB := Lib.hid hB
    have HR := Lib.hid hrow
    clear hcmp ih hW hQA hQB hA hB hrow hlen ha hm hb hA0 hB0 hA1 hB1
    obtain ⟨lo, hi, hlo1, hlo2, hhi1, hhi2, hside, hsl, hsh⟩ : ∃ lo hi : Nat, a ≤ lo ∧ lo ≤ hi ∧ hi ≤ m ∧ hi ≤ mid ∧ (mid + m ≤ lo + b ∧ mid + m - lo ≤ b) ∧ (if mid < m then (mid : Int) + m - b = lo else a = lo) ∧ (if mid < m then mid = hi else m = hi) := by
      by_cases h : mid < m
      · refine ⟨mid + m - b, mid, by omega, by omega, by omega, by omega, by omega, ?_, ?_⟩
        · rw [if_pos h]; omega
        · rw [if_pos h]
      · refine ⟨a, m, by omega, by omega, by omega, by omega, by omega, ?_, ?_⟩
        · rw [if_neg h]
        · rw [if_neg h]
    have hcase : (lo = a ∧ hi = m) ∨ (mid + m = lo + b ∧ hi = mid) := by
      by_cases h : mid < m
      · rw [if_pos h] at hsl hsh; omega
      · rw [if_neg h] at hsl hsh; omega
    have HCASE := Lib.hid hcase
    have HSL := Lib.hid hsl
    have HSH := Lib.hid hsh
    obtain ⟨nn, hnn⟩ : ∃ nn : Nat, nn = mid + m := ⟨_, rfl⟩
    obtain ⟨pp, hpp⟩ : ∃ pp : Nat, pp + 1 = nn := ⟨nn - 1, by omega⟩
    have en : (mid : Int) + m = nn := by omega
    have ep : (nn : Int) - 1 = pp := by omega
    have HNN := Lib.hid hnn
    have HPP := Lib.hid hpp
    clear hcase hsl hsh hnn hpp
    go_enter Try.func97, Try.ntmps97
    go_upto_if 140 with fail
    go_cut [20, 21] from 138 to 146 (fun s20 s21 wx => s20 = .int .i64 lo ∧ s21 = .int .i64 hi ∧ wx = w)
    case first =>
      by_cases hmm : mid < m
      · have hmz : (mid : Int) < (m : Int) := by omega
        have h1 := HSL.out
        have h2 := HSH.out
        rw [if_pos hmm] at h1 h2
        have H1 := Lib.hid (show (nn : Int) - b = lo by have := HNN.out; omega)
        have H2 := Lib.hid h2
        clear h1 h2
        go_wp2
        go_meet
        rw [H1.out, H2.out]
        exact ⟨rfl, rfl, rfl⟩
      · have hmz : ¬ (mid : Int) < (m : Int) := by omega
        have h1 := HSL.out
        have h2 := HSH.out
        rw [if_neg hmm] at h1 h2
        have H1 := Lib.hid h1
        have H2 := Lib.hid h2
        clear h1 h2
        go_wp2
        go_meet
        rw [H1.out, H2.out]
        exact ⟨rfl, rfl, rfl⟩
    case rest =>
      obtain ⟨rfl, rfl, hwc⟩ := hcut
      have hwc := hwc.symm
      subst hwc
      have hlz : (lo : Int) ≤ n := by omega
      go_wp2
      go_loopw [20, 21] (fun sv rv wr => ∃ s r : Nat, lo ≤ s ∧ s ≤ r ∧ r ≤ hi ∧ sv = .int .i64 s ∧ rv = .int .i64 r ∧ (s = lo ∨ ∃ x y, A[s - a - 1]? = some x ∧ B[mid - s]? = some y ∧ ltc cf y x = false) ∧ (r = hi ∨ ∃ x y, A[r - a]? = some x ∧ B[mid - r - 1]? = some y ∧ ltc cf y x = true) ∧ RowI base g n cap (X ++ A ++ B ++ Y) wr ∧ w.grownBy wr (some g)) (fun sv rv _ => (intOf rv).toNat - (intOf sv).toNat)
      case atStart => exact ⟨lo, hi, Nat.le_refl _, hlo2, Nat.le_refl _, rfl, rfl, .inl rfl, .inl rfl, HR.out, grefl _ _⟩
      case round =>
        obtain ⟨s, r, hs1, hs2, hs3, rfl, rfl, hlo, hhi, hr, hg⟩ := hrel
        have hXA := HA.out
        have hAm := HM.out
        have hBb := HB.out
        have hnn := HNN.out
        have hpp := HPP.out
        by_cases hlt : s < r
        · obtain ⟨k, hk, hk1, hk2⟩ := half s r hlt
          obtain ⟨x, hx⟩ : ∃ x, A[k - a]? = some x := ⟨_, List.getElem?_eq_getElem (by omega)⟩
          obtain ⟨y, hy⟩ : ∃ y, B[mid - k - 1]? = some y := ⟨_, List.getElem?_eq_getElem (by omega)⟩
          obtain ⟨q, hq⟩ : ∃ q, q = pp - k := ⟨_, rfl⟩
          have eq1 : (pp : Int) - k = q := by omega
          obtain ⟨cx, -⟩ := hr.at_ (j := k) (x := x) (by
            rw [List.append_assoc, List.getElem?_append_left (by simp; omega), List.getElem?_append_right (by omega), hXA]
            exact hx)
          obtain ⟨cy, -⟩ := hr.at_ (j := q) (x := y) (by
            rw [List.getElem?_append_left (by simp; omega), List.getElem?_append_right (by simp; omega), List.length_append, show q - (X.length + A.length) = mid - k - 1 by omega]
            exact hy)
          have hc := fun z => HC.out (wr.drewN z) (gdrew hg z) y x (HQB.out y (List.mem_of_getElem? hy)) (HQA.out x (List.mem_of_getElem? hx))
          obtain ⟨c, hcf⟩ : ∃ c, cf y x = c := ⟨_, rfl⟩
          simp only [hcf] at hc
          have hkz : (k : Int) < n := by omega
          have hqz : (q : Int) < n := by omega
          have HCF := Lib.hid hcf
          have HLO := Lib.hid hlo
          have HHI := Lib.hid hhi
          have HX := Lib.hid hx
          have HY := Lib.hid hy
          have HROW := Lib.hid hr
          have HG := Lib.hid hg
          clear hcf hlo hhi hx hy hr hg hXA hAm hBb hnn hpp hq
          rcases (show decide (c < 0) = true ∨ decide (c < 0) = false by cases decide (c < 0) <;> simp) with hneg | hneg
          all_goals
            go_wp2_with fail
            go_quiet ((go_at_fn F; exact Calls.quiet_of (hc _)))
            go_wp2
            go_roundw
            case rel => first
              | exact ⟨k + 1, r, by omega, by omega, by omega, by go_num, rfl, .inr ⟨x, y, by rw [show k + 1 - a - 1 = k - a by omega]; exact HX.out, by rw [show mid - (k + 1) = mid - k - 1 by omega]; exact HY.out, by unfold ltc; rw [HCF.out]; exact hneg⟩, HHI.out, HROW.out.drewN nq, gdrew HG.out nq⟩
              | exact ⟨s, k, by omega, by omega, by omega, rfl, rfl, HLO.out, .inr ⟨x, y, HX.out, HY.out, by unfold ltc; rw [HCF.out]; exact hneg⟩, HROW.out.drewN nq, gdrew HG.out nq⟩
            case measure => simp [intOf]; omega
        · obtain rfl : s = r := by omega
          obtain ⟨q, hq⟩ : ∃ q, q = nn - s := ⟨_, rfl⟩
          have eq1 : (nn : Int) - s = q := by omega
          have hmq : m ≤ q := by omega
          have hqb : q ≤ b := by omega
          have hmidq : mid ≤ q := by omega
          have hsm : s ≤ m := by omega
          have hsmid : s ≤ mid := by omega
          have hcut := mrg_cut HW.out HSA.out HSB.out (i := s - a) (j := mid - s)
            (by
              rcases HCASE.out with h | h
              · rcases hlo with h' | h'
                · exact .inl (by omega)
                · exact .inr (.inr h')
              · rcases hlo with h' | h'
                · exact .inr (.inl (by omega))
                · exact .inr (.inr h'))
            (by
              rcases HCASE.out with h | h
              · rcases hhi with h' | h'
                · exact .inl (by omega)
                · exact .inr (.inr h')
              · rcases hhi with h' | h'
                · exact .inr (.inl (by omega))
                · exact .inr (.inr h'))
          obtain ⟨A1, hA1⟩ : ∃ A1, A.take (s - a) = A1 := ⟨_, rfl⟩
          obtain ⟨A2, hA2⟩ : ∃ A2, A.drop (s - a) = A2 := ⟨_, rfl⟩
          obtain ⟨B1, hB1⟩ : ∃ B1, B.take (mid - s) = B1 := ⟨_, rfl⟩
          obtain ⟨B2, hB2⟩ : ∃ B2, B.drop (mid - s) = B2 := ⟨_, rfl⟩
          have hAA : A = A1 ++ A2 := by rw [← hA1, ← hA2, List.take_append_drop]
          have hBB : B = B1 ++ B2 := by rw [← hB1, ← hB2, List.take_append_drop]
          have la1 : A1.length = s - a := by rw [← hA1, List.length_take]; omega
          have la2 : A2.length = m - s := by rw [← hA2, List.length_drop]; omega
          have lb1 : B1.length = mid - s := by rw [← hB1, List.length_take]; omega
          have lb2 : B2.length = b - q := by rw [← hB2, List.length_drop]; omega
          rw [hA1, hA2, hB1, hB2] at hcut
          have sA := HSA.out
          have sB := HSB.out
          have qA := HQA.out
          have qB := HQB.out
          rw [hAA] at sA qA hr
          rw [hBB] at sB qB hr
          have hQ := Lib.hid hq
          have HCUT := Lib.hid hcut
          have LA1 := Lib.hid la1
          have LA2 := Lib.hid la2
          have LB1 := Lib.hid lb1
          have LB2 := Lib.hid lb2
          have SA := Lib.hid (asc_append.1 sA)
          have SB := Lib.hid (asc_append.1 sB)
          have QA := Lib.hid qA
          have QB := Lib.hid qB
          have HROW := Lib.hid hr
          have HG := Lib.hid hg
          clear hlo hhi hr hg hXA hAm hBb hnn hpp hq hcut hA1 hA2 hB1 hB2 hAA hBB la1 la2 lb1 lb2 sA sB qA qB
          go_upto_region 39 with fail
          go_cut [185] from 178 to 185 (fun s185 wx => s185 = .bool (decide (s < m ∧ m < q)) ∧ wx = wr)
          case first =>
            by_cases h1 : s < m
            · by_cases h2 : m < q
              all_goals
                go_wp2
                go_meet
                exact ⟨by simp [h1, h2], rfl⟩
            · go_wp2
              go_meet
              exact ⟨by simp [h1], rfl⟩
          case rest =>
            obtain ⟨rfl, hwc⟩ := hcut
            have hwc := hwc.symm
            subst hwc
            go_upto_if 185 with fail
            go_cut [] from 178 to 191 (fun wx => RowI base g n cap (X ++ A1 ++ B1 ++ A2 ++ B2 ++ Y) wx ∧ w.grownBy wx (some g))
            case first =>
              by_cases h1 : s < m ∧ m < q
              · have hd : decide (s < m ∧ m < q) = true := by simpa using h1
                have hc := fun W (hW : W = wr) => rot_any (.func (.func F) #[] cb) base g n cap s m q (X ++ A1) A2 B1 (B2 ++ Y) W (by rw [hW]; simpa using HROW.out) (by have := HA.out; have := LA1.out; simp; omega) (by have := LA2.out; omega) (by have := LB1.out; have := HNN.out; have := hQ.out; omega) (by have := LA2.out; omega) (by have := LB1.out; have := HNN.out; have := hQ.out; omega) hn
                go_wp2_with (go_at_call 99; refine (hc _ rfl).mono ?_; rintro e w2 ⟨rfl, hr2, hg2⟩)
                go_meet
                exact ⟨by simpa using hr2, gtrans HG.out hg2⟩
              · have hd : decide (s < m ∧ m < q) = false := by simpa using h1
                have hdis : A2 = [] ∨ B1 = [] := by
                  rcases Nat.lt_or_ge s m with h | h
                  · exact .inr (List.eq_nil_of_length_eq_zero (by have := LB1.out; have := HNN.out; have := hQ.out; omega))
                  · exact .inl (List.eq_nil_of_length_eq_zero (by have := LA2.out; omega))
                have HD := Lib.hid (show RowI base g n cap (X ++ A1 ++ B1 ++ A2 ++ B2 ++ Y) wr by
                  have := HROW.out
                  rcases hdis with h | h <;> rw [h] at this ⊢ <;> simpa using this)
                clear hdis
                go_wp2
                go_meet
                exact ⟨HD.out, HG.out⟩
            case rest =>
              obtain ⟨hr1, hg1⟩ := hcut
              have HROW1 := Lib.hid hr1
              have HG1 := Lib.hid hg1
              clear hr1 hg1 HROW HG
              go_upto_region 41 with fail
              go_cut [199] from 192 to 199 (fun s199 wx => s199 = .bool (decide (a < s ∧ s < mid)) ∧ wx = wc)
              case first =>
                by_cases h1 : a < s
                · by_cases h2 : s < mid
                  all_goals
                    go_wp2
                    go_meet
                    exact ⟨by simp [h1, h2], rfl⟩
                · go_wp2
                  go_meet
                  exact ⟨by simp [h1], rfl⟩
              case rest =>
                obtain ⟨rfl, hwc⟩ := hcut
                rw [← hwc] at HROW1 HG1
                clear hwc
                go_upto_if 199 with fail
                go_cut [] from 192 to 205 (fun wx => RowI base g n cap (X ++ mrg (ltc cf) A1 B1 ++ A2 ++ B2 ++ Y) wx ∧ w.grownBy wx (some g))
                case first =>
                  by_cases h1 : a < s ∧ s < mid
                  · have hd : decide (a < s ∧ s < mid) = true := by simpa using h1
                    have hc := fun W (hW : w.grownBy W (some g)) (hR : RowI base g n cap (X ++ A1 ++ B1 ++ A2 ++ B2 ++ Y) W) => HIH.out a s mid X A1 B1 (A2 ++ B2 ++ Y) W (by omega) (HC.out.on hW) (fun y hy => QA.out y (List.mem_append_left _ hy)) (fun y hy => QB.out y (List.mem_append_left _ hy)) SA.out.1 SB.out.1 (by have := LA1.out; omega) (by have := LB1.out; omega) (by simpa using hR) HA.out (by have := LA1.out; omega) (by have := LB1.out; omega)
                    go_wp2_with (go_at_call 97; refine (hc _ HG1.out HROW1.out).mono ?_; rintro e w2 ⟨rfl, hr2, hg2⟩)
                    go_meet
                    exact ⟨by simpa using hr2, gtrans HG1.out hg2⟩
                  · have hd : decide (a < s ∧ s < mid) = false := by simpa using h1
                    have hdis : mrg (ltc cf) A1 B1 = A1 ++ B1 := mrg_disj (by
                      rcases Nat.lt_or_ge a s with h | h
                      · exact .inr (List.eq_nil_of_length_eq_zero (by have := LB1.out; omega))
                      · exact .inl (List.eq_nil_of_length_eq_zero (by have := LA1.out; omega)))
                    have HD := Lib.hid hdis
                    clear hdis
                    go_wp2
                    go_meet
                    exact ⟨by rw [HD.out]; simpa using HROW1.out, HG1.out⟩
                case rest =>
                  obtain ⟨hr1, hg1⟩ := hcut
                  have HROW2 := Lib.hid hr1
                  have HG2 := Lib.hid hg1
                  have HFIN := Lib.hid (show X ++ mrg (ltc cf) A1 B1 ++ mrg (ltc cf) A2 B2 ++ Y = X ++ mrg (ltc cf) A B ++ Y by rw [HCUT.out]; simp)
                  clear hr1 hg1 HROW1 HG1
                  by_cases h1 : mid < q
                  · by_cases h2 : q < b
                    · have hc := fun W (hW : w.grownBy W (some g)) (hR : RowI base g n cap (X ++ mrg (ltc cf) A1 B1 ++ A2 ++ B2 ++ Y) W) => HIH.out mid q b (X ++ mrg (ltc cf) A1 B1) A2 B2 Y W (by omega) (HC.out.on hW) (fun y hy => QA.out y (List.mem_append_right _ hy)) (fun y hy => QB.out y (List.mem_append_right _ hy)) SA.out.2.1 SB.out.2.1 (by have := LA2.out; have := HNN.out; have := hQ.out; omega) (by have := LB2.out; omega) hR (by have := HA.out; have := LA1.out; have := LB1.out; rw [List.length_append, mrg_length]; omega) (by have := LA2.out; have := HNN.out; have := hQ.out; omega) (by have := LB2.out; omega)
                      go_wp2_with (go_at_call 97; refine (hc _ HG2.out HROW2.out).mono ?_; rintro e w2 ⟨rfl, hr2, hg2⟩)
                      go_end0
                      exact ⟨rfl, by rw [HFIN.out] at hr2; simpa using hr2, gtrans HG2.out hg2⟩
                    · have hdis := mrg_disj (lt := ltc cf) (A := A2) (B := B2) (.inr (List.eq_nil_of_length_eq_zero (by have := LB2.out; omega)))
                      have HR3 := Lib.hid (show RowI base g n cap (X ++ mrg (ltc cf) A B ++ Y) wc by rw [← HFIN.out, hdis]; simpa using HROW2.out)
                      clear hdis
                      go_wp2
                      go_end0
                      exact ⟨rfl, by simpa using HR3.out, HG2.out⟩
                  · have hdis := mrg_disj (lt := ltc cf) (A := A2) (B := B2) (.inl (List.eq_nil_of_length_eq_zero (by have := LA2.out; have := HNN.out; have := hQ.out; omega)))
                    have HR3 := Lib.hid (show RowI base g n cap (X ++ mrg (ltc cf) A B ++ Y) wc by rw [← HFIN.out, hdis]; simpa using HROW2.out)
                    clear hdis
                    go_wp2
                    go_end0
                    exact ⟨rfl, by simpa using HR3.out, HG2.out⟩
theorem symM_any (F : Nat) (cb : Array Value) (cf : Int → Int → Int) (Q : Int → Prop) (base g n cap : Nat) (eg : ∀ args w, (callFunc F args).run Try.prog w = .ok (.enter F args) w) (hW : Wk (ltc cf)) (hn : n ≤ 1000000000) (N : Nat) : SymM F cb cf Q base g n cap N := by
  induction N with
  | zero => intro a m b X A B Y w hN hcmp hQA hQB hA hB hA0 hB0 hrow ha hm hb; omega
  | succ N ih => exact fun a m b X A B Y w hN hcmp hQA hQB hA hB hA0 hB0 hrow ha hm hb => symM_step F cb cf Q base g n cap N eg hW hn ih a m b X A B Y w hN hcmp hQA hQB hA hB hA0 hB0 hrow ha hm hb
end Go.Proofs.Ytenbbmmbpjjjpaa
namespace Go.Proofs.Ytenbbmmbpjjjpaa
open Go.RowKit
set_option linter.unusedVariables false
set_option linter.unusedSimpArgs false
section
variable {α : Type} {lt : α → α → Bool}
/-- L is D with its blocks of k elements sorted -/
inductive Bl (lt : α → α → Bool) (k : Nat) : List α → List α → Prop
  | nil : Bl lt k [] []
  | cons {d D L : List α} : d.length = k → Bl lt k D L → Bl lt k (d ++ D) (srt lt d ++ L)
theorem Bl.len {k : Nat} {D L : List α} (h : Bl lt k D L) : L.length = D.length := by
  induction h with
  | nil => rfl
  | cons hd _ ih => simp [srt_length, ih]
theorem Bl.snoc {k : Nat} {D L d : List α} (h : Bl lt k D L) (hd : d.length = k) : Bl lt k (D ++ d) (L ++ srt lt d) := by
  induction h with
  | nil => simpa using Bl.cons hd Bl.nil
  | cons hd' _ ih => rw [List.append_assoc, List.append_assoc]; exact Bl.cons hd' ih
theorem Bl.split {k : Nat} {D L : List α} (h : Bl lt k D L) (hk : 0 < k) : (D = [] ∧ L = []) ∨ ∃ d D' L', D = d ++ D' ∧ L = srt lt d ++ L' ∧ d.length = k ∧ Bl lt k D' L' := by
  cases h with
  | nil => exact .inl ⟨rfl, rfl⟩
  | cons hd h => exact .inr ⟨_, _, _, rfl, rfl, hd, h⟩
theorem Bl.two {k : Nat} {D L : List α} (h : Bl lt k D L) (hk : 0 < k) {r : Nat} (hr : r < k) (h2 : 2 * k ≤ D.length + r) : ∃ d1 d2 D' L', D = d1 ++ d2 ++ D' ∧ L = srt lt d1 ++ srt lt d2 ++ L' ∧ d1.length = k ∧ d2.length = k ∧ Bl lt k D' L' := by
  rcases h.split hk with ⟨rfl, rfl⟩ | ⟨d1, D1, L1, rfl, rfl, hd1, h1⟩
  · simp at h2; omega
  · rcases h1.split hk with ⟨rfl, rfl⟩ | ⟨d2, D2, L2, rfl, rfl, hd2, h3⟩
    · simp at h2; omega
    · exact ⟨d1, d2, D2, L2, by simp, by simp, hd1, hd2, h3⟩
theorem Bl.one {k : Nat} {D L : List α} (h : Bl lt k D L) (hk : 0 < k) {r : Nat} (h2 : D.length + r < 2 * k) : (D = [] ∧ L = []) ∨ (D.length = k ∧ L = srt lt D) := by
  rcases h.split hk with ⟨rfl, rfl⟩ | ⟨d1, D1, L1, rfl, rfl, hd1, h1⟩
  · exact .inl ⟨rfl, rfl⟩
  · rcases h1.split hk with ⟨rfl, rfl⟩ | ⟨d2, D2, L2, rfl, rfl, hd2, h3⟩
    · exact .inr (by simp [hd1])
    · simp at h2; omega
theorem Bl.all (H : Wk lt) {k : Nat} {D L R : List α} (h : Bl lt k D L) (hk : 0 < k) (h2 : D.length + R.length ≤ k) : L ++ srt lt R = srt lt (D ++ R) := by
  rcases h.split hk with ⟨rfl, rfl⟩ | ⟨d1, D1, L1, rfl, rfl, hd1, h1⟩
  · rfl
  · have hR : R = [] := List.eq_nil_of_length_eq_zero (by simp at h2; omega)
    rcases h1.split hk with ⟨rfl, rfl⟩ | ⟨d2, D2, L2, rfl, rfl, hd2, h3⟩
    · subst hR; simp [srt]
    · simp at h2; omega
end
set_option maxHeartbeats 8000000 in
set_option maxRecDepth 100000 in
theorem stable_any (F : Nat) (cb : Array Value) (cf : Int → Int → Int) (Q : Int → Prop) (base g n cap : Nat) (D : List Int) (w : World)
    (eg : ∀ args w, (callFunc F args).run Try.prog w = .ok (.enter F args) w) (hcmp : Cmps F cb g cf Q w) (hW : Wk (ltc cf)) (hQ : ∀ x ∈ D, Q x)
    (hrow : RowI base g n cap D w) (hn : n ≤ 1000000000) :
    Calls Try.prog 90 #[.slice (some ⟨g, 0, none⟩) n cap, .int .i64 n, .func (.func F) #[] cb] w fun e w' => e = .returned (.tuple #[]) ∧ RowI base g n cap (srt (ltc cf) D) w' ∧ w.grownBy w' (some g) := by
  have hlen : D.length = n := hrow.2
  have HC := Lib.hid hcmp
  have HQ := Lib.hid hQ
  have HW := Lib.hid hW
  have HL := Lib.hid hlen
  have HR := Lib.hid hrow
  have HSY := Lib.hid (symM_any F cb cf Q base g n cap eg hW hn n)
  clear hcmp hQ hW hrow hlen
  go_enter Try.func90, Try.ntmps90
  go_wp2
  go_loopw [7, 8] (fun av bv wr => ∃ (a : Nat) (P L R : List Int), av = .int .i64 a ∧ bv = .int .i64 (a + 20) ∧ a ≤ n ∧ Bl (ltc cf) 20 P L ∧ P ++ R = D ∧ P.length = a ∧ RowI base g n cap (L ++ R) wr ∧ w.grownBy wr (some g)) (fun av _ _ => n - (intOf av).toNat)
  case atStart => exact ⟨0, [], [], D, rfl, rfl, by omega, .nil, rfl, rfl, HR.out, grefl _ _⟩
  case round =>
    obtain ⟨a, P, L, R, rfl, rfl, han, hB, hD, hP, hr, hg⟩ := hrel
    have hPR : a + R.length = n := by have := HL.out; rw [← hD, List.length_append] at this; omega
    have hLl : L.length = a := by rw [hB.len]; exact hP
    by_cases hlt : a + 20 ≤ n
    · have hltz : (a : Int) + 20 ≤ n := by omega
      obtain ⟨d, R', hR', hd⟩ : ∃ d R', R = d ++ R' ∧ d.length = 20 := ⟨R.take 20, R.drop 20, (List.take_append_drop _ _).symm, by rw [List.length_take]; omega⟩
      rw [hR'] at hr hD
      have HB := Lib.hid (hB.snoc hd)
      have HD := Lib.hid (show (P ++ d) ++ R' = D by rw [List.append_assoc]; exact hD)
      have HP := Lib.hid (show (P ++ d).length = a + 20 by simp; omega)
      obtain ⟨b, hb⟩ : ∃ b : Nat, b = a + 20 := ⟨_, rfl⟩
      have hc := fun W (hW : w.grownBy W (some g)) (hR : RowI base g n cap (L ++ (d ++ R')) W) => insSort_any F cb cf Q base g n cap a b L d R' W eg (HC.out.on hW) HW.out (fun x hx => HQ.out x (by rw [← HD.out]; simp [hx])) (by simpa using hR) hLl (by omega) hn
      have HROW := Lib.hid hr
      have HG := Lib.hid hg
      have ea : (a : Int) + 20 = (b : Int) := by omega
      have hbn : b ≤ n := by omega
      have hb20 : b + 20 ≤ 2000000000 := by omega
      have HBB := Lib.hid hb
      clear hr hg hR' hd hB hD hP hPR hLl hb
      go_wp2_with (go_at_call 78; refine (hc _ HG.out HROW.out).mono ?_; rintro e w2 ⟨rfl, hr2, hg2⟩)
      have HR2 := Lib.hid hr2
      have HG2 := Lib.hid (gtrans HG.out hg2)
      clear hr2 hg2 hc
      go_roundw
      case rel => exact ⟨b, P ++ d, L ++ srt (ltc cf) d, R', rfl, rfl, hbn, HB.out, HD.out, by rw [HBB.out]; exact HP.out, HR2.out, HG2.out⟩
      case measure => have := HBB.out; simp [intOf]; omega
    · have hltz : ¬ (a : Int) + 20 ≤ n := by omega
      have hc := fun W (hW : w.grownBy W (some g)) (hR : RowI base g n cap (L ++ R) W) => insSort_any F cb cf Q base g n cap a n L R [] W eg (HC.out.on hW) HW.out (fun x hx => HQ.out x (by rw [← hD]; simp [hx])) (by simpa using hR) hLl hPR hn
      have HROW := Lib.hid hr
      have HG := Lib.hid hg
      have HB := Lib.hid hB
      have HD := Lib.hid hD
      have HRL := Lib.hid (show R.length < 20 by omega)
      clear hr hg hB hD hP hPR hLl
      go_wp2_with (go_at_call 78; refine (hc _ HG.out HROW.out).mono ?_; rintro e w2 ⟨rfl, hr2, hg2⟩)
      have HR2 := Lib.hid (show RowI base g n cap (L ++ srt (ltc cf) R) w2 by simpa using hr2)
      have HG2 := Lib.hid (gtrans HG.out hg2)
      clear hr2 hg2 hc HROW HG
      go_loopw [6, 7, 8, 9] (fun kv _ _ _ wr => ∃ (k : Nat) (P L R : List Int), kv = .int .i64 k ∧ 20 ≤ k ∧ k ≤ 4000000000 ∧ Bl (ltc cf) k P L ∧ P ++ R = D ∧ R.length < k ∧ RowI base g n cap (L ++ srt (ltc cf) R) wr ∧ w.grownBy wr (some g)) (fun kv _ _ _ _ => n - (intOf kv).toNat)
      case atStart => exact ⟨20, P, L, R, rfl, by omega, by omega, HB.out, HD.out, HRL.out, HR2.out, HG2.out⟩
      case round =>
        clear HB HD HRL HR2 HG2 hlt hltz han
        obtain ⟨k, P, L, R, rfl, hk1, hk2, hB, hD, hRk, hr, hg⟩ := hrel
        have hPR : P.length + R.length = n := by have := HL.out; rw [← hD, List.length_append] at this; omega
        by_cases hkn : k < n
        · have hknz : (k : Int) < n := by omega
          obtain ⟨kk, hkk⟩ : ∃ kk : Nat, kk = 2 * k := ⟨_, rfl⟩
          have e2k : 2 * (k : Int) = (kk : Int) := by omega
          have ek2 : (k : Int) * 2 = (kk : Int) := by omega
          have hkkb : kk ≤ 2000000000 := by omega
          have HKK := Lib.hid hkk
          have HPR := Lib.hid hPR
          have HRK := Lib.hid hRk
          have HB := Lib.hid hB
          have HD := Lib.hid hD
          have HROW := Lib.hid hr
          have HG := Lib.hid hg
          clear hB hD hr hg hPR hkk hRk
          go_wp2
          go_loopw [7, 8] (fun av bv wr => ∃ (a : Nat) (E EL P' L' : List Int), av = .int .i64 a ∧ bv = .int .i64 ((a : Int) + kk) ∧ a ≤ n ∧ Bl (ltc cf) kk E EL ∧ Bl (ltc cf) k P' L' ∧ E ++ P' ++ R = D ∧ E.length = a ∧ RowI base g n cap (EL ++ L' ++ srt (ltc cf) R) wr ∧ w.grownBy wr (some g)) (fun av _ _ => n - (intOf av).toNat)
          case atStart => exact ⟨0, [], [], P, L, rfl, by go_num, by omega, .nil, HB.out, by simpa using HD.out, rfl, by simpa using HROW.out, HG.out⟩
          case round =>
            clear HB HD HROW HG HPR
            obtain ⟨a, E, EL, P', L', rfl, rfl, han, hE, hB, hD, hEa, hr, hg⟩ := hrel
            have hPR : a + P'.length + R.length = n := by have := HL.out; rw [← hD, List.length_append, List.length_append] at this; omega
            have hEL : EL.length = a := by rw [hE.len]; exact hEa
            obtain ⟨m, hm⟩ : ∃ m : Nat, m = a + k := ⟨_, rfl⟩
            have em : (a : Int) + k = (m : Int) := by omega
            have hkk := HKK.out
            have hRk := HRK.out
            by_cases hlt : a + kk ≤ n
            · obtain ⟨d1, d2, P2, L2, rfl, rfl, hd1, hd2, hB2⟩ := hB.two (by omega) hRk (by omega)
              obtain ⟨b, hb⟩ : ∃ b : Nat, b = a + kk := ⟨_, rfl⟩
              have eb : (a : Int) + kk = (b : Int) := by omega
              have hbn : b ≤ n := by omega
              have hbnz : (b : Int) ≤ n := by omega
              have hc := fun W (hW : w.grownBy W (some g)) (hR : RowI base g n cap (EL ++ (srt (ltc cf) d1 ++ srt (ltc cf) d2 ++ L2) ++ srt (ltc cf) R) W) => HSY.out a m b EL (srt (ltc cf) d1) (srt (ltc cf) d2) (L2 ++ srt (ltc cf) R) W (by omega) (HC.out.on hW) (fun y hy => HQ.out y (by rw [← hD]; simp [(srt_mem _ _).1 hy])) (fun y hy => HQ.out y (by rw [← hD]; simp [(srt_mem _ _).1 hy])) (srt_asc HW.out _) (srt_asc HW.out _) (by rw [srt_length]; omega) (by rw [srt_length]; omega) (by simpa using hR) hEL (by rw [srt_length]; omega) (by rw [srt_length]; omega)
              have HE := Lib.hid (hE.snoc (d := d1 ++ d2) (by simp; omega))
              have HSA := Lib.hid (srt_append HW.out d1 d2)
              have HB2 := Lib.hid hB2
              have HD := Lib.hid (show E ++ (d1 ++ d2) ++ P2 ++ R = D by rw [← hD]; simp)
              have HEb := Lib.hid (show (E ++ (d1 ++ d2)).length = b by simp; omega)
              have HROW := Lib.hid hr
              have HG := Lib.hid hg
              have HBB := Lib.hid hb
              clear hE hB2 hB hD hEa hr hg hPR hEL hd1 hd2 hb hm hkk hRk
              go_wp2_with (go_at_call 97; refine (hc _ HG.out HROW.out).mono ?_; rintro e w2 ⟨rfl, hr2, hg2⟩)
              have HR2 := Lib.hid hr2
              have HG2 := Lib.hid (gtrans HG.out hg2)
              clear hr2 hg2 hc
              go_roundw
              case rel => exact ⟨b, E ++ (d1 ++ d2), EL ++ srt (ltc cf) (d1 ++ d2), P2, L2, rfl, rfl, hbn, HE.out, HB2.out, HD.out, HEb.out, by rw [HSA.out]; simpa using HR2.out, HG2.out⟩
              case measure => have := HBB.out; have := HKK.out; simp [intOf]; omega
            · have hlt2 : ¬ (a : Int) + kk ≤ n := by omega
              rcases hB.one (by omega) (r := R.length) (by omega) with ⟨rfl, rfl⟩ | ⟨hPk, rfl⟩
              · have hmn : ¬ m < n := by simp at hPR; omega
                have hmnz : ¬ (m : Int) < n := by omega
                have HE := Lib.hid hE
                have HD := Lib.hid (show E ++ R = D by simpa using hD)
                have HRK2 := Lib.hid (show R.length < kk by omega)
                have HROW := Lib.hid (show RowI base g n cap (EL ++ srt (ltc cf) R) wr by simpa using hr)
                have HG := Lib.hid hg
                clear hE hD hr hg hPR hEL hEa hm hkk hRk hB
                go_wp2
                go_roundw
                case rel => exact ⟨kk, E, EL, R, rfl, by have := HKK.out; omega, by omega, HE.out, HD.out, HRK2.out, HROW.out, HG.out⟩
                case measure => have := HKK.out; simp [intOf]; omega
              · have HE := Lib.hid hE
                have HSA := Lib.hid (srt_append HW.out P' R)
                have HD := Lib.hid (show E ++ (P' ++ R) = D by rw [← hD]; simp)
                have HRK2 := Lib.hid (show (P' ++ R).length < kk by rw [List.length_append]; omega)
                have HROW := Lib.hid hr
                have HG := Lib.hid hg
                by_cases hmn : m < n
                · have hmnz : (m : Int) < n := by omega
                  have hc := fun W (hW : w.grownBy W (some g)) (hR : RowI base g n cap (EL ++ srt (ltc cf) P' ++ srt (ltc cf) R) W) => HSY.out a m n EL (srt (ltc cf) P') (srt (ltc cf) R) [] W (by omega) (HC.out.on hW) (fun y hy => HQ.out y (by rw [← hD]; simp [(srt_mem _ _).1 hy])) (fun y hy => HQ.out y (by rw [← hD]; simp [(srt_mem _ _).1 hy])) (srt_asc HW.out _) (srt_asc HW.out _) (by rw [srt_length]; omega) (by rw [srt_length]; omega) (by simpa using hR) hEL (by rw [srt_length]; omega) (by rw [srt_length]; omega)
                  clear hE hD hr hg hPR hEL hEa hm hkk hRk hB hPk
                  go_wp2_with (go_at_call 97; refine (hc _ HG.out HROW.out).mono ?_; rintro e w2 ⟨rfl, hr2, hg2⟩)
                  have HR2 := Lib.hid hr2
                  have HG2 := Lib.hid (gtrans HG.out hg2)
                  clear hr2 hg2 hc
                  go_roundw
                  case rel => exact ⟨kk, E, EL, P' ++ R, rfl, by have := HKK.out; omega, by omega, HE.out, HD.out, HRK2.out, by rw [HSA.out]; simpa using HR2.out, HG2.out⟩
                  case measure => have := HKK.out; simp [intOf]; omega
                · have hmnz : ¬ (m : Int) < n := by omega
                  have hR0 : R = [] := List.eq_nil_of_length_eq_zero (by omega)
                  have HR3 := Lib.hid (show RowI base g n cap (EL ++ srt (ltc cf) (P' ++ R)) wr by subst hR0; simpa [srt] using hr)
                  clear hE hD hr hg hPR hEL hEa hm hkk hRk hB hPk hR0
                  go_wp2
                  go_roundw
                  case rel => exact ⟨kk, E, EL, P' ++ R, rfl, by have := HKK.out; omega, by omega, HE.out, HD.out, HRK2.out, HR3.out, HG.out⟩
                  case measure => have := HKK.out; simp [intOf]; omega
        · have hknz : ¬ (k : Int) < n := by omega
          have hfin := hB.all HW.out (by omega) (R := R) (by omega)
          rw [hfin, hD] at hr
          have HROW := Lib.hid hr
          have HG := Lib.hid hg
          clear hB hD hPR hfin hr hg
          go_wp2
          go_end0
          exact ⟨rfl, HROW.out, HG.out⟩
theorem sortStable_any (F : Nat) (cb : Array Value) (cf : Int → Int → Int) (Q : Int → Prop) (base g n cap : Nat) (D : List Int) (w : World)
    (eg : ∀ args w, (callFunc F args).run Try.prog w = .ok (.enter F args) w) (hcmp : Cmps F cb g cf Q w) (hW : Wk (ltc cf)) (hQ : ∀ x ∈ D, Q x)
    (hrow : RowI base g n cap D w) (hn : n ≤ 1000000000) :
    Calls Try.prog 76 #[.slice (some ⟨g, 0, none⟩) n cap, .func (.func F) #[] cb] w fun e w' => e = .returned (.tuple #[]) ∧ RowI base g n cap (srt (ltc cf) D) w' ∧ w.grownBy w' (some g) := by
  have HC := Lib.hid (stable_any F cb cf Q base g n cap D w eg hcmp hW hQ hrow hn)
  clear hcmp hW hQ hrow
  go_enter Try.func76, Try.ntmps76
  go_wp2_with (go_at_call 90; refine HC.out.mono ?_; rintro e w2 ⟨rfl, hr2, hg2⟩)
  go_end0
  exact ⟨rfl, hr2, hg2⟩
end Go.Proofs.Ytenbbmmbpjjjpaa
