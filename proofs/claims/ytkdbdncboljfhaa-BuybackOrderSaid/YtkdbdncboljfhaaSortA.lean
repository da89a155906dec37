/- slices.insertionSortCmpFunc, SortStableFunc's blocks, at []int. -/
import Derived.Test.YtkdbdncboljfhaaSortP
import Derived.Test.YtkdbdncboljfhaaRow
import Derived.Laws.OwnMore
import Derived.RegionTactic
import Derived.ChangeAlike
import Derived.BigRegion
import Derived.BigQuiet
import Derived.Shelf.Abstract
namespace Go.Proofs.Ytkdbdncboljfhaa
open Go.RowKit
set_option linter.unusedVariables false
set_option linter.unusedSimpArgs false

/-- the function F, bound to cb, compares two numbers with Q wherever block g alone has turned -/
def Cmps (F : Nat) (cb : Array Value) (g : Nat) (cf : Int → Int → Int) (Q : Int → Prop) (w : World) : Prop :=
  ∀ W, w.grownBy W (some g) → ∀ x y, Q x → Q y → Calls Try.prog F (#[.int .i64 x, .int .i64 y] ++ cb) W fun e w' => e = .returned (.int .i64 (cf x y)) ∧ ∃ q, w' = W.drewN q
/-- 'x lies ahead of y', as the sort asks it -/
def ltc {α : Type} (cf : α → α → Int) (x y : α) : Bool := decide (cf x y < 0)
/-- the cells of a list of integers -/
def cI (x : Int) : Value := .int .i64 x
/-- the list L lies in the row of block g -/
def RowI (base g n cap : Nat) (L : List Int) (w : World) : Prop := w.ownsRow base 3 1 (.slice (some ⟨g, 0, none⟩) n cap) n (L.map cI) ∧ L.length = n
theorem gtrans {a b c : World} {x : Option Nat} (h : a.grownBy b x) (k : b.grownBy c x) : a.grownBy c x :=
  ⟨k.os.trans h.os, k.tape.trans h.tape, k.output.trans h.output, Nat.le_trans h.size k.size, fun i hi hx => (k.block i (Nat.lt_of_lt_of_le hi h.size) hx).trans (h.block i hi hx)⟩
theorem grefl (a : World) (x : Option Nat) : a.grownBy a x := ⟨rfl, rfl, rfl, Nat.le_refl _, fun _ _ _ => rfl⟩
theorem gdrew {a b : World} {x : Option Nat} (h : a.grownBy b x) (q : Nat) : a.grownBy (b.drewN q) x := ⟨h.os, h.tape, h.output, h.size, h.block⟩
theorem RowI.drewN {base g n cap : Nat} {L : List Int} {w : World} (h : RowI base g n cap L w) (q : Nat) : RowI base g n cap L (w.drewN q) := ⟨h.1, h.2⟩
theorem RowI.at_ {base g n cap : Nat} {L : List Int} {w : World} (h : RowI base g n cap L w) {j : Nat} {x : Int} (hx : L[j]? = some x) : w.cell? ⟨g, j, none⟩ = some (.int .i64 x) ∧ w.frozen? ⟨g, j, none⟩ = false := by
  have hj : j < n := by rw [← h.2]; exact (List.getElem?_eq_some_iff.1 hx).1
  refine ⟨?_, h.1.frozenAt j⟩
  rw [h.1.cellAt j (by omega), List.getElem?_map, hx]; rfl
theorem RowI.set {base g n cap : Nat} {L : List Int} {w : World} (h : RowI base g n cap L w) (j : Nat) (x : Int) : RowI base g n cap (L.set j x) (w.setCell ⟨g, j, none⟩ (.int .i64 x)) ∧ w.grownBy (w.setCell ⟨g, j, none⟩ (.int .i64 x)) (some g) := by
  have := h.1.stored j (.int .i64 x)
  refine ⟨⟨?_, by rw [List.length_set]; exact h.2⟩, this.2⟩
  rw [List.map_set]; exact this.1
/-- two stores: an exchange -/
theorem RowI.swap {base g n cap : Nat} {L : List Int} {w : World} (h : RowI base g n cap L w) (i j : Nat) (x y : Int) (q : Nat) :
    RowI base g n cap ((L.set i x).set j y) (((w.setCell ⟨g, i, none⟩ (.int .i64 x)).setCell ⟨g, j, none⟩ (.int .i64 y)).drewN q) ∧ w.grownBy (((w.setCell ⟨g, i, none⟩ (.int .i64 x)).setCell ⟨g, j, none⟩ (.int .i64 y)).drewN q) (some g) := by
  obtain ⟨h1, g1⟩ := h.set i x
  obtain ⟨h2, g2⟩ := h1.set j y
  exact ⟨h2.drewN q, gdrew (gtrans g1 g2) q⟩
theorem get_pair {α : Type} (P R : List α) (y x : α) : (P ++ y :: x :: R)[P.length]? = some y ∧ (P ++ y :: x :: R)[P.length + 1]? = some x := by
  constructor
  · simp
  · rw [List.getElem?_append_right (by omega)]; simp
theorem set_pair {α : Type} (P R : List α) (y x a b : α) : ((P ++ y :: x :: R).set (P.length + 1) a).set P.length b = P ++ b :: a :: R := by
  rw [List.set_append_right _ _ (by omega), List.set_append_right _ _ (by omega)]
  simp [show P.length + 1 - P.length = 1 by omega]
theorem set_pair' {α : Type} (P R : List α) (y x a b : α) : ((P ++ y :: x :: R).set P.length a).set (P.length + 1) b = P ++ a :: b :: R := by
  rw [List.set_append_right _ _ (by omega), List.set_append_right _ _ (by omega)]
  simp [show P.length + 1 - P.length = 1 by omega]
/-- an exchange of neighbours -/
theorem RowI.nbr {base g n cap : Nat} {P R : List Int} {y x : Int} {w : World} (h : RowI base g n cap (P ++ y :: x :: R) w) (q : Nat) {j jp : Nat} (hp : P.length = jp) (hj : j = jp + 1) :
    RowI base g n cap (P ++ x :: y :: R) (((w.setCell ⟨g, j, none⟩ (.int .i64 y)).setCell ⟨g, jp, none⟩ (.int .i64 x)).drewN q) ∧ w.grownBy (((w.setCell ⟨g, j, none⟩ (.int .i64 y)).setCell ⟨g, jp, none⟩ (.int .i64 x)).drewN q) (some g) := by
  subst hj hp
  have := h.swap (P.length + 1) P.length y x q
  rwa [set_pair] at this
theorem Cmps.on {F : Nat} {cb : Array Value} {g : Nat} {cf : Int → Int → Int} {Q : Int → Prop} {w w' : World} (h : Cmps F cb g cf Q w) (hg : w.grownBy w' (some g)) : Cmps F cb g cf Q w' :=
  fun W hW x y hx hy => h W (gtrans hg hW) x y hx hy

theorem snoc_cases {α : Type} (L : List α) : L = [] ∨ ∃ S y, L = S ++ [y] := by
  rcases List.eq_nil_or_concat L with h | ⟨S, y, h⟩
  · exact .inl h
  · exact .inr ⟨S, y, by rw [h, List.concat_eq_append]⟩
/-- the inner loop's list -/
def InIns (lt : Int → Int → Bool) (X S T : List Int) (x : Int) (j : Nat) (D : List Int) : Prop :=
  ∃ S1 S2, S = S1 ++ S2 ∧ j = X.length + S1.length ∧ D = X ++ S1 ++ x :: (S2 ++ T) ∧ ∀ y ∈ S2, lt x y = true
theorem InIns.out {lt : Int → Int → Bool} (H : Wk lt) {X S T : List Int} {x : Int} {j : Nat} {D : List Int} (h : InIns lt X S T x j D) (hS : Asc lt S) (hx : j = X.length ∨ ∃ y, D[j - 1]? = some y ∧ lt x y = false) : D = X ++ mrg lt S [x] ++ T := by
  obtain ⟨S1, S2, rfl, rfl, rfl, h2⟩ := h
  rw [mrg_put H hS h2]
  · simp
  · rcases snoc_cases S1 with rfl | ⟨S, y, rfl⟩
    · exact .inl rfl
    · refine .inr ⟨S, y, rfl, ?_⟩
      rcases hx with hx | ⟨z, hz, hlt⟩
      · simp at hx
      · have e : (X ++ (S ++ [y]) ++ x :: (S2 ++ T))[X.length + (S ++ [y]).length - 1]? = some y := by
          rw [List.getElem?_append_left (by simp), List.getElem?_append_right (by simp)]
          simp [show X.length + (S.length + 1) - 1 - X.length = S.length by omega]
        rw [e] at hz
        cases hz
        exact hlt
theorem InIns.step {lt : Int → Int → Bool} {X S T : List Int} {x : Int} {j : Nat} {D : List Int} (h : InIns lt X S T x j D) (hj : X.length < j) :
    ∃ P y R, D = P ++ y :: x :: R ∧ P.length + 1 = j ∧ (lt x y = true → InIns lt X S T x P.length (P ++ x :: y :: R)) := by
  obtain ⟨S1, S2, rfl, rfl, rfl, h2⟩ := h
  rcases snoc_cases S1 with rfl | ⟨S, y, rfl⟩
  · simp at hj
  · refine ⟨X ++ S, y, S2 ++ T, by simp, by simp; omega, fun hl => ⟨S, y :: S2, by simp, by simp, by simp, fun z hz => ?_⟩⟩
    rcases List.mem_cons.1 hz with rfl | hz
    · exact hl
    · exact h2 z hz
theorem InIns.mem {lt : Int → Int → Bool} {X S T : List Int} {x : Int} {j : Nat} {D : List Int} (h : InIns lt X S T x j D) {Q : Int → Prop} (hS : ∀ z ∈ S, Q z) (hj : X.length < j) {y : Int} (hy : D[j - 1]? = some y) : Q y := by
  obtain ⟨S1, S2, rfl, rfl, rfl, h2⟩ := h
  rw [List.getElem?_append_left (by simp; omega), List.getElem?_append_right (by omega)] at hy
  exact hS y (List.mem_append_left _ (List.mem_of_getElem? hy))

set_option maxHeartbeats 4000000 in
set_option maxRecDepth 100000 in
theorem insSort_any (F : Nat) (cb : Array Value) (cf : Int → Int → Int) (Q : Int → Prop) (base g n cap a b : Nat) (X A Y : List Int) (w : World)
    (eg : ∀ args w, (callFunc F args).run Try.prog w = .ok (.enter F args) w) (hcmp : Cmps F cb g cf Q w) (hW : Wk (ltc cf)) (hQ : ∀ x ∈ A, Q x)
    (hrow : RowI base g n cap (X ++ A ++ Y) w) (ha : X.length = a) (hb : a + A.length = b) (hn : n ≤ 1000000000) :
    Calls Try.prog 69 #[.slice (some ⟨g, 0, none⟩) n cap, .int .i64 a, .int .i64 b, .func (.func F) #[] cb] w fun e w' => e = .returned (.tuple #[]) ∧ RowI base g n cap (X ++ srt (ltc cf) A ++ Y) w' ∧ w.grownBy w' (some g) := by
  have hlen : X.length + A.length + Y.length = n := by have := hrow.2; simp at this; omega
  have hbn : b ≤ n := by omega
  have HC := Lib.hid hcmp
  have HQ := Lib.hid hQ
  have HA := Lib.hid ha
  have HB := Lib.hid hb
  have HW := Lib.hid hW
  have HR := Lib.hid hrow
  clear hcmp hQ hW hrow hlen ha
  go_enter Try.func69, Try.ntmps69
  go_wp2
  go_loopw [8] (fun iv wr => ∃ i : Nat, a + 1 ≤ i ∧ i ≤ b + 1 ∧ iv = .int .i64 i ∧ RowI base g n cap (X ++ srt (ltc cf) (A.take (i - a)) ++ (A.drop (i - a) ++ Y)) wr ∧ w.grownBy wr (some g)) (fun iv _ => (b + 1) - (intOf iv).toNat)
  case atStart =>
    refine ⟨a + 1, by omega, by omega, by go_num, ?_, grefl _ _⟩
    rw [show a + 1 - a = 1 by omega]
    have e : srt (ltc cf) (A.take 1) = A.take 1 := by
      cases A with
      | nil => rfl
      | cons x A => exact srt_one x
    rw [e, ← List.append_assoc, List.append_assoc X, List.take_append_drop]
    exact HR.out
  case round =>
    obtain ⟨i, hi1, hi2, rfl, hr, hg⟩ := hrel
    by_cases hlt : i < b
    · have hltz : (i : Int) < (b : Int) := by omega
      obtain ⟨x, hx⟩ : ∃ x, A[i - a]? = some x := ⟨_, List.getElem?_eq_getElem (by omega)⟩
      have hdrop := drop_cons hx
      have htake := take_snocZ hx
      have hxQ := HQ.out x (List.mem_of_getElem? hx)
      obtain ⟨S, hS⟩ : ∃ S, srt (ltc cf) (A.take (i - a)) = S := ⟨_, rfl⟩
      have hSl : S.length = i - a := by rw [← hS, srt_length, List.length_take]; omega
      have hSa : Asc (ltc cf) S := by rw [← hS]; exact srt_asc HW.out _
      have hSQ : ∀ z ∈ S, Q z := fun z hz => by rw [← hS] at hz; exact HQ.out z (List.mem_of_mem_take ((srt_mem _ _).1 hz))
      have hnext : srt (ltc cf) (A.take (i + 1 - a)) = mrg (ltc cf) S [x] := by rw [show i + 1 - a = i - a + 1 by omega, htake, srt_append HW.out, hS, srt_one]
      have hdrop' : A.drop (i + 1 - a) = A.drop (i - a + 1) := by rw [show i + 1 - a = i - a + 1 by omega]
      rw [hS, hdrop] at hr
      obtain ⟨T, hT⟩ : ∃ T, A.drop (i - a + 1) ++ Y = T := ⟨_, rfl⟩
      have hr' : RowI base g n cap (X ++ S ++ x :: T) wr := by rw [← hT]; exact hr
      have hstart : InIns (ltc cf) X S T x i (X ++ S ++ x :: T) := ⟨S, [], by simp, by have := HA.out; omega, by simp, by simp⟩
      have HN := Lib.hid hnext
      have HD := Lib.hid hdrop'
      have HT := Lib.hid hT
      have HS := Lib.hid hSa
      have HSQ := Lib.hid hSQ
      have HR' := Lib.hid hr'
      have HST := Lib.hid hstart
      have HG := Lib.hid hg
      clear hx hdrop htake hS hSl hSa hSQ hnext hdrop' hr hT hr' hstart hg
      go_wp2
      go_loopw [9] (fun jv wr => ∃ (j : Nat) (D : List Int), a ≤ j ∧ j ≤ i ∧ jv = .int .i64 j ∧ InIns (ltc cf) X S T x j D ∧ RowI base g n cap D wr ∧ w.grownBy wr (some g)) (fun jv _ => (intOf jv).toNat)
      case atStart => exact ⟨i, _, by omega, by omega, rfl, HST.out, HR'.out, HG.out⟩
      case round =>
        obtain ⟨j, D, hj1, hj2, rfl, hI, hrow, hgr⟩ := hrel
        have done : (j = a ∨ ∃ y, D[j - 1]? = some y ∧ ltc cf x y = false) → D = X ++ srt (ltc cf) (A.take (i + 1 - a)) ++ (A.drop (i + 1 - a) ++ Y) := fun h => by
          rw [HN.out, HD.out, HT.out]
          exact hI.out HW.out HS.out (h.imp (fun h => by rw [HA.out]; exact h) id)
        have DONE := Lib.hid done
        clear done
        by_cases hja : a < j
        · obtain ⟨P, y, R, hD, hP, hstep⟩ := hI.step (by rw [HA.out]; exact hja)
          have hyQ : Q y := hI.mem HSQ.out (by rw [HA.out]; exact hja) (y := y) (by rw [hD, show j - 1 = P.length by omega]; exact (get_pair P R y x).1)
          have hy1 : D[j - 1]? = some y := by rw [hD, show j - 1 = P.length by omega]; exact (get_pair P R y x).1
          obtain ⟨jp, hjp⟩ : ∃ jp, jp = P.length := ⟨_, rfl⟩
          rw [← hjp] at hP hstep
          obtain rfl : j = jp + 1 := by omega
          have HDD := Lib.hid hD
          rw [hD] at hrow
          obtain ⟨cp, fp⟩ := hrow.at_ (get_pair P R y x).1
          obtain ⟨cj, fj⟩ := hrow.at_ (get_pair P R y x).2
          rw [← hjp] at cp fp cj fj
          have jz : (jp : Int) + 1 < (n : Int) := by omega
          have jz1 : (jp : Int) < (n : Int) := by omega
          have p0 : (0 : Int) ≤ (jp : Int) + 1 := by omega
          have e0 : ((jp : Int) + 1).toNat = jp + 1 := by omega
          have hjaz : (a : Int) < (jp : Int) + 1 := by omega
          have hw1 : IntKind.i64.wrap (jp : Int) = (jp : Int) := by rw [IntKind.wrap_i64]; omega
          have hc := fun q => HC.out (wr.drewN q) (gdrew hgr q) x y hxQ hyQ
          obtain ⟨c, hcf⟩ : ∃ c, cf x y = c := ⟨_, rfl⟩
          simp only [hcf] at hc
          have HCF := Lib.hid hcf
          have HI := Lib.hid hI
          have HJP := Lib.hid hjp
          have HP := Lib.hid hP
          have HST2 := Lib.hid hstep
          have HROW := Lib.hid hrow
          have HGR := Lib.hid hgr
          have HY1 := Lib.hid hy1
          clear hcf hI hjp hstep hD hrow hgr hyQ hy1 hP
          by_cases hneg : c < 0
          · have hlt1 : ltc cf x y = true := by unfold ltc; rw [HCF.out]; exact decide_eq_true hneg
            have HL1 := Lib.hid hlt1
            clear hlt1
            go_wp2_with fail
            go_quiet ((go_at_fn F; exact Calls.quiet_of (hc _)))
            go_wp2_with fail
            have cp2 : (wr.drewN nq).cell? ⟨g, jp, none⟩ = some (.int .i64 y) := cp
            have cj2 : (wr.drewN nq).cell? ⟨g, jp + 1, none⟩ = some (.int .i64 x) := cj
            have fp2 : (wr.drewN nq).frozen? ⟨g, jp, none⟩ = false := fp
            have fj2 : (wr.drewN nq).frozen? ⟨g, jp + 1, none⟩ = false := fj
            have HROW2 := Lib.hid (HROW.out.drewN nq)
            have HGR2 := Lib.hid (gdrew HGR.out nq)
            clear cp cj fp fj hc HROW HGR
            generalize wr.drewN nq = wq at cp2 cj2 fp2 fj2 HROW2 HGR2 ⊢
            obtain ⟨j1, hj1⟩ : ∃ j1, j1 = jp + 1 := ⟨_, rfl⟩
            rw [← hj1] at cj2 fj2 e0
            have J1 := Lib.hid hj1
            clear hj1
            go_region
            all_goals go_wp2
            go_roundw
            case rel =>
              have hx := HROW2.out.nbr 1 HJP.out.symm J1.out
              exact ⟨jp, _, by omega, by omega, by first | rfl | go_num | (congr 1; omega), HST2.out HL1.out, hx.1, gtrans HGR2.out hx.2⟩
            case measure => simp [intOf]
          · have hlt1 : ltc cf x y = false := by unfold ltc; rw [HCF.out]; exact decide_eq_false hneg
            have hfin := DONE.out (.inr ⟨y, HY1.out, hlt1⟩)
            have HF := Lib.hid hfin
            have HRD := Lib.hid HI
            clear hlt1 hfin
            go_wp2_with fail
            go_quiet ((go_at_fn F; exact Calls.quiet_of (hc _)))
            go_wp2
            go_roundw
            case rel => exact ⟨i + 1, by omega, by omega, by go_num, by rw [← HF.out, HDD.out]; exact HROW.out.drewN nq, gdrew HGR.out nq⟩
            case measure => simp [intOf]; omega
        · obtain rfl : j = a := by omega
          have HF := Lib.hid (DONE.out (.inl rfl))
          have HROW := Lib.hid hrow
          have HGR := Lib.hid hgr
          clear DONE hI hrow hgr hja
          have hd : decide ((j : Int) < (j : Int)) = false := by simp
          go_wp2_with fail
          go_quiet (fail)
          go_wp2
          go_roundw
          case rel => exact ⟨i + 1, by omega, by omega, by go_num, by rw [← HF.out]; exact HROW.out.drewN nq, gdrew HGR.out nq⟩
          case measure => simp [intOf]; omega
    · have hd : ¬ (i : Int) < (b : Int) := by omega
      have hfin : X ++ srt (ltc cf) (A.take (i - a)) ++ (A.drop (i - a) ++ Y) = X ++ srt (ltc cf) A ++ Y := by
        rw [List.take_of_length_le (by have := HB.out; omega), List.drop_of_length_le (by have := HB.out; omega), List.nil_append]
      rw [hfin] at hr
      have HR2 := Lib.hid hr
      have HG2 := Lib.hid hg
      clear hfin hr hg
      go_wp2
      go_end0
      exact ⟨rfl, by simpa using HR2.out, HG2.out⟩
end Go.Proofs.Ytkdbdncboljfhaa
