/- money.Parts: its closures. The contract of money.Parts. money.Parts in plain: what the parts are. -/
import Derived.Test.YtenbbmmbpjjjpaaZIxI
import Derived.Test.YtenbbmmbpjjjpaaZSortF
import Derived.Deep.AppendLies
namespace Go.Proofs.Ytenbbmmbpjjjpaa
open Go.RowKit
set_option linter.unusedVariables false
set_option linter.unusedSimpArgs false
theorem parts1_any (n : Int) (w : World) : Calls Try.prog 74 #[.int .i64 n] w fun e w' => e = .returned (.bool (!wgB n)) ∧ w = w' := by
  go_enter Try.func74, Try.ntmps74
  go_wp2_with (go_at_call 75; refine (weight_any _ _).mono ?_; rintro e w' ⟨rfl, rfl⟩)
  go_ret
  exact ⟨rfl, rfl⟩
theorem wgAny_any (P : Nat → Prop) (v : Value) (L : List Int) (w : World) (hS : Sl 1 encI P w v L) (hl : L.length ≤ 1000000) :
    Calls Try.prog 73 #[v, .func (.func 74) #[] #[]] w fun e w' => e = .returned (.bool (L.any fun w => !wgB w)) ∧ Below w.heap.size w w' :=
  containsI_any 74 #[] (fun w => !wgB w) P v L w (enters_of Try.func74 (by kernel_rfl) rfl) (fun W _ x _ => (parts1_any x W).mono fun e w' h => ⟨h.1, h.2 ▸ brefl⟩) hS hl
/-- what the comparison reads -/
structure CpBox (b2 b3 b6 : Nat) (t s : Int) (v : Value) (P : Nat → Prop) (W : List Int) (w : World) : Prop where
  c2 : w.cell? ⟨b2, 0, none⟩ = some (.int .i64 t)
  c3 : w.cell? ⟨b3, 0, none⟩ = some v
  c6 : w.cell? ⟨b6, 0, none⟩ = some (.int .i64 s)
  sl : Sl 1 encI P w v W
set_option maxHeartbeats 1000000 in
theorem parts2_any (b2 b3 b6 : Nat) (t s : Int) (v : Value) (P : Nat → Prop) (W : List Int) (i k : Int) (w : World) (h : CpBox b2 b3 b6 t s v P W w) (t0 : 0 ≤ t) (t1 : t ≤ 1000000000000) (s0 : 0 < s) (s1 : s ≤ 1000000000000)
    (hW : ∀ x ∈ W, 0 ≤ x ∧ x ≤ 1000000) (hl : W.length ≤ 1000000) (i0 : 0 ≤ i) (i1 : i < W.length) (k0 : 0 ≤ k) (k1 : k < W.length) :
    Calls Try.prog 77 (#[.int .i64 i, .int .i64 k] ++ #[.pointer (some ⟨b2, 0, none⟩), .pointer (some ⟨b3, 0, none⟩), .pointer (some ⟨b6, 0, none⟩)]) w fun e w' => e = .returned (.int .i64 (cfP t s W i k)) ∧ ∃ q, w' = w.drewN q := by
  obtain ⟨c2, c3, c6, hS⟩ := h
  obtain ⟨ao, n, c, rfl, hn, hnc, hcm⟩ := hS.shape
  obtain ⟨a, rfl⟩ := Int.eq_ofNat_of_zero_le i0
  obtain ⟨d, rfl⟩ := Int.eq_ofNat_of_zero_le k0
  obtain ⟨b, off, x, rfl, -, -, hx, hcx⟩ := hS.int (k := a) (by omega)
  obtain ⟨b', off', y, he, -, -, hy, hcy⟩ := hS.int (k := d) (by omega)
  cases he
  have bx := hW x (List.mem_of_getElem? hx)
  have by_ := hW y (List.mem_of_getElem? hy)
  have px := mul_bd t0 t1 bx.1 bx.2
  have py := mul_bd t0 t1 by_.1 by_.2
  have rx : rAt t s W (a : Int) = t * x % s := by simp [rAt, rstP, List.getD_eq_getElem?_getD, hx]
  have ry : rAt t s W (d : Int) = t * y % s := by simp [rAt, rstP, List.getD_eq_getElem?_getD, hy]
  have hcf : cfP t s W a d = cmpI (t * y % s) (t * x % s) := by unfold cfP; rw [rx, ry]
  rw [hcf]
  have ex : (t * x).tmod s = t * x % s := Int.tmod_eq_emod_of_nonneg px.1
  have ey : (t * y).tmod s = t * y % s := Int.tmod_eq_emod_of_nonneg py.1
  obtain ⟨p, hp⟩ : ∃ p, t * x = p := ⟨_, rfl⟩
  obtain ⟨q, hq⟩ : ∃ q, t * y = q := ⟨_, rfl⟩
  rw [hp] at px ex
  rw [hq] at py ey
  rw [hp, hq]
  obtain ⟨r, hr⟩ : ∃ r, p % s = r := ⟨_, rfl⟩
  obtain ⟨u, hu⟩ : ∃ u, q % s = u := ⟨_, rfl⟩
  rw [hr] at ex
  rw [hu] at ey
  rw [hr, hu]
  have hr0 : 0 ≤ r ∧ r < s := by rw [← hr]; exact ⟨Int.emod_nonneg _ (by omega), Int.emod_lt_of_pos _ s0⟩
  have hu0 : 0 ≤ u ∧ u < s := by rw [← hu]; exact ⟨Int.emod_nonneg _ (by omega), Int.emod_lt_of_pos _ s0⟩
  have ha : (a : Int) < (n : Int) := by omega
  have hd : (d : Int) < (n : Int) := by omega
  have w1 : IntKind.i64.wrap p = p := IntWalk.i64_in _ (by omega)
  have w2 : IntKind.i64.wrap q = q := IntWalk.i64_in _ (by omega)
  have w3 : IntKind.i64.wrap r = r := IntWalk.i64_in _ (by omega)
  have w4 : IntKind.i64.wrap u = u := IntWalk.i64_in _ (by omega)
  have hs0 : (s == 0) = false := by simp; omega
  have hs1 : ¬ s = 0 := by omega
  obtain ⟨px0, px1⟩ := px
  obtain ⟨py0, py1⟩ := py
  clear hS hn hx hy rx ry hcf hr hu
  go_enter Try.func77, Try.ntmps77
  go_wp2_with fail
  go_quiet ((go_at_call 57; exact Calls.quiet_of_same ((compare_any _ _ _).mono fun _ _ h => ⟨h.1, h.2.symm⟩)))
  go_wp2
  go_ret
  exact ⟨rfl, _, rfl⟩
end Go.Proofs.Ytenbbmmbpjjjpaa
namespace Go.Proofs.Ytenbbmmbpjjjpaa
open Go.RowKit
set_option linter.unusedVariables false
set_option linter.unusedSimpArgs false
/-- what Parts leaves -/
def PartsMade (E : Int) (L : List Int) (w : World) (e : Ending) (w' : World) : Prop :=
  ∃ v, e = .returned (.tuple #[v, .int .i64 E]) ∧ Sl 1 encI (fun b => w.heap.size ≤ b) w' v L ∧ Below w.heap.size w w'
theorem partsMade_nil {E : Int} {L : List Int} {w w' : World} (hL : L = []) (hb : Below w.heap.size w w') : PartsMade E L w (.returned (.tuple #[.slice none 0 0, .int .i64 E])) w' := by
  subst hL; exact ⟨_, rfl, Sl.nil, hb⟩
theorem flatI (L : List Int) : flatE encI L = L.map cI := by
  induction L with
  | nil => rfl
  | cons x L ih => simp only [flatE, List.flatMap_cons] at ih ⊢; rw [ih]; rfl
def Two (v u : Value) : Prop := ∀ b, v.ownBlock = some b → u.ownBlock = some b → False
theorem two_far {v u : Value} (h : Two v u) : u.ownBlock = none ∨ u.ownBlock ≠ v.ownBlock := by
  cases hu : u.ownBlock with
  | none => exact .inl rfl
  | some b => exact .inr fun e => h b e.symm hu
theorem two_new {v u : Value} {w : World} {B z : Nat} {e : TypeId} {k : Nat} {ys : List Value} {g n c : Nat} (hu : w.ownsRow B e z u k ys) (h : Two v u) (hg : v.ownBlock = some g ∨ g = w.heap.size + 1) :
    (Value.slice (some ⟨g, 0, none⟩) n c).ownBlock = none ∨ (Value.slice (some ⟨g, 0, none⟩) n c).ownBlock ≠ u.ownBlock := by
  refine .inr fun e => ?_
  have e' : u.ownBlock = some g := e.symm
  rcases hg with hg | hg
  · exact h g hg e'
  · have := hu.lt g e'; omega
theorem two_end {w : World} {u : Value} {g n c g2 c' : Nat} (h : (Value.slice (some ⟨g, 0, none⟩) n c).ownBlock = none ∨ (Value.slice (some ⟨g, 0, none⟩) n c).ownBlock ≠ u.ownBlock) (hlt : g < w.heap.size) (hg : u.ownBlock = some g2 ∨ g2 = w.heap.size + 1) :
    Two (Value.slice (some ⟨g, 0, none⟩) n c) (Value.slice (some ⟨g2, 0, none⟩) n c') := by
  intro b e1 e2
  have e1' : g = b := by simpa [Value.ownBlock] using e1
  have e2' : g2 = b := by simpa [Value.ownBlock] using e2
  subst e1'
  subst e2'
  rcases hg with hg | hg
  · rcases h with h | h
    · simp [Value.ownBlock] at h
    · exact h hg.symm
  · omega
theorem _root_.Go.World.ownsRow.cap_le {w : World} {B z : Nat} {e : TypeId} {g n c : Nat} {xs : List Value} (h : w.ownsRow B e z (.slice (some ⟨g, 0, none⟩) n c) n xs) : n ≤ c := by
  rcases h.2 with ⟨h, _⟩ | ⟨g', cap, cur, h, _, _, hc, _⟩
  · cases h
  · cases h; exact hc
theorem cell_last {w : World} {B : Nat} {e : TypeId} {g k c : Nat} {L : List Value} {u : Value} (h : w.ownsRow B e 1 (.slice (some ⟨g, 0, none⟩) (k + 1) c) (k + 1) (L ++ [u])) : w.cell? ⟨g, k, none⟩ = some u := by
  rw [h.cellAt k (by omega)]
  have := h.1
  simp only [List.length_append, List.length_singleton] at this
  rw [List.getElem?_append_right (by omega), show k - L.length = 0 by omega]; rfl
set_option maxHeartbeats 8000000 in
set_option maxRecDepth 100000 in
theorem parts_any (t : Int) (P : Nat → Prop) (v : Value) (W : List Int) (w : World) (hS : Sl 1 encI P w v W) (hl : W.length ≤ 1000000) :
    Calls Try.prog 67 #[.int .i64 t, v] w (PartsMade (partsE t W) (partsL t W) w) := by
  obtain ⟨ao, n, c, rfl, hn, hnc, hcm⟩ := hS.shape
  have HN := Lib.hid hn
  have HS := Lib.hid hS
  have hn1 : n ≤ 1000000 := by omega
  have HWG := Lib.hid (fun U (hU : Below w.heap.size w U) => wgAny_any P _ W U (hS.below hU) hl)
  clear hS hn hl
  cases hT : inB t 0 1000000000000
  · have hE : partsE t W = 2 := by unfold partsE; rw [hT]; rfl
    have hL : partsL t W = [] := by unfold partsL; rw [hE]; rfl
    rw [hE]
    have HT := Lib.hid hT
    have HL := Lib.hid hL
    clear hE hL hT
    go_enter Try.func67, Try.ntmps67
    go_wp2_with (go_at_call 46; refine (valid_any _ _).mono ?_; rw [HT.out]; rintro e w1 ⟨rfl, rfl⟩)
    go_ret2
    exact partsMade_nil HL.out (bal (bal brefl _) _)
  have HT := Lib.hid hT
  obtain ⟨t0, t1⟩ := inB_iff.1 hT
  cases hA : W.any fun w => !wgB w
  · by_cases h200 : 200 < n
    · have hE : partsE t W = 3 := by unfold partsE; rw [hT, hA]; simp [show 200 < W.length by have := HN.out; omega]
      have hL : partsL t W = [] := by unfold partsL; rw [hE]; rfl
      rw [hE]
      have HL := Lib.hid hL
      have HA := Lib.hid hA
      have hz : ((200 : Int) < n) := by omega
      clear hE hL hT hA
      go_enter Try.func67, Try.ntmps67
      go_wp2_with (go_at_call 46; refine (valid_any _ _).mono ?_; rw [HT.out]; rintro e w1 ⟨rfl, rfl⟩)
      go_wp2_with fail
      refine (HWG.out _ (bal (bal brefl _) _)).mono ?_
      rw [HA.out]
      rintro e w1 ⟨rfl, hb1⟩
      have x3 := (hb1.cell (p := ⟨w.heap.size + 1, 0, none⟩) (by simp)).trans ((World.cell?_alloc_at _ _ _ _ (by simp)).trans rfl)
      have HB1 := Lib.hid (bup (bal (bal brefl _) _) hb1)
      clear hb1
      go_wp2
      go_ret2
      exact partsMade_nil HL.out HB1.out
    · have hwg := wg_all hA
      have hST := Lib.hid (sum_take hwg)
      have hE : partsE t W = if sumI W = 0 then 1 else 0 := by unfold partsE; rw [hT, hA]; simp [show ¬ 200 < W.length by have := HN.out; omega]
      have HE := Lib.hid hE
      have HA := Lib.hid hA
      have HW := Lib.hid hwg
      have hz : ¬ ((200 : Int) < n) := by omega
      have hn2 : n ≤ 200 := by omega
      clear hE hT hA hwg
      go_enter Try.func67, Try.ntmps67
      go_wp2_with (go_at_call 46; refine (valid_any _ _).mono ?_; rw [HT.out]; rintro e w1 ⟨rfl, rfl⟩)
      go_wp2_with fail
      refine (HWG.out _ (bal (bal brefl _) _)).mono ?_
      rw [HA.out]
      rintro e w1 ⟨rfl, hb1⟩
      have x3 := (hb1.cell (p := ⟨w.heap.size + 1, 0, none⟩) (by simp)).trans ((World.cell?_alloc_at _ _ _ _ (by simp)).trans rfl)
      have x2 := (hb1.cell (p := ⟨w.heap.size, 0, none⟩) (by simp; omega)).trans ((World.cell?_alloc_past _ _ _ (by simp)).trans ((World.cell?_alloc_at _ _ _ _ rfl).trans rfl))
      have HB1 := Lib.hid (bup (bal (bal brefl _) _) hb1)
      have z1 : w.heap.size + 2 ≤ w1.heap.size := by have := hb1.size; simp at this; omega
      clear hb1
      have z2 : w.heap.size + 1 < w1.heap.size := by omega
      have z3 : w.heap.size < w1.heap.size := by omega
      go_wp2
      go_loopw [28] (fun iv wr => ∃ k : Nat, k ≤ n ∧ iv = .int .i64 k ∧ wr.cell? ⟨w1.heap.size, 0, none⟩ = some (.int .i64 (sumI (W.take k))) ∧ wr.frozen? ⟨w1.heap.size, 0, none⟩ = false ∧ Below w1.heap.size w1 wr ∧ w1.heap.size < wr.heap.size) (fun iv _ => n - (intOf iv).toNat)
      case atStart =>
        refine ⟨0, by omega, rfl, ?_, ?_, ?_, ?_⟩
        · exact (World.cell?_alloc_at _ _ _ _ rfl).trans rfl
        · exact World.frozen?_alloc_at _ _ _ _ rfl
        · exact bal brefl _
        · simp
      case round =>
        obtain ⟨k, hk, rfl, h6, f6, hbr, hzr⟩ := hrel
        have y3 := (hbr.cell (p := ⟨w.heap.size + 1, 0, none⟩) (by simp only; omega)).trans x3
        have y2 := (hbr.cell (p := ⟨w.heap.size, 0, none⟩) (by simp only; omega)).trans x2
        obtain ⟨S, hSk⟩ : ∃ S, sumI (W.take k) = S := ⟨_, rfl⟩
        have sb := hST.out k
        rw [hSk] at sb h6
        have hWn : W.length = n := HN.out
        by_cases hlt : k < n
        · obtain ⟨b, off, x, rfl, -, -, hx, hc⟩ := (HS.out.below (bup HB1.out hbr)).int hlt
          have bx := HW.out x (List.mem_of_getElem? hx)
          have hnext := Lib.hid (show sumI (W.take (k + 1)) = S + x by rw [take_snocZ hx, sumI_append, hSk]; simp [sumI])
          have HBR := Lib.hid hbr
          clear hx hSk hbr
          go_wp2
          go_roundw
          case rel =>
            refine ⟨k + 1, by omega, by go_num, ?_, ?_, ?_, ?_⟩
            · rw [hnext.out]; exact World.cell?_setCell_same _ _ _ h6
            · rw [World.frozen?_setCell]; exact f6
            · exact bset HBR.out (Nat.le_refl _) _
            · simpa [World.setCell] using hzr
          case measure => simp [intOf]; omega
        · have hS0 : S = sumI W := by rw [← hSk, take_all (by omega)]
          by_cases h0 : S = 0
          · have hE1 : partsE t W = 1 := by rw [HE.out, if_pos (by omega)]
            have hL : partsL t W = [] := by unfold partsL; rw [hE1]; rfl
            have HL := Lib.hid hL
            have HBR := Lib.hid hbr
            subst h0
            have HE1 := Lib.hid hE1
            clear hE1 hL hbr hSk hS0
            go_wp2
            go_ret2
            rw [HE1.out]
            exact partsMade_nil HL.out (bup HB1.out HBR.out)
          · have hne : (S == 0) = false := by simpa using h0
            have hsp : 0 < S := by omega
            have hE1 : partsE t W = 0 := by rw [HE.out, if_neg (by omega)]
            have hL : partsL t W = partsR t S W := by unfold partsL; rw [hE1, if_pos rfl, hS0]
            have HE1 := Lib.hid hE1
            have HL := Lib.hid hL
            have HS0 := Lib.hid hS0
            have HBR := Lib.hid hbr
            have hsmall : S ≤ 200000000 := by omega
            clear hE1 hL hbr hSk hS0 hST HE
            obtain ⟨i1, hi, hz0, hz1, hz2⟩ := info_parts infoInt
            have zr := hzr
            have z4 : w.heap.size < wr.heap.size := by omega
            have z5 : w.heap.size + 1 < wr.heap.size := by omega
            have hs0 : (S == 0) = false := hne
            have hs1 : ¬ S = 0 := h0
            have HBS := Lib.hid (fun k => sum_base_take (t := t) (W := W) t0 (by rw [← HS0.out]; exact hsp) (fun x hx => (HW.out x hx).1) k)
            have HTK := Lib.hid (show ∀ k, k < n → ∃ x, W[k]? = some x ∧ (baseP t S W)[k]? = some (t * x / S) from fun k hk => ⟨W[k]'(by have := HN.out; omega), by simp, by simp [baseP, List.getElem?_map, show k < W.length by have := HN.out; omega]⟩)
            rename World => Wo
            go_wp2
            go_loopw [9, 10, 11, 41] (fun lv ov dv iv wq => ∃ (k : Nat), k ≤ n ∧ iv = .int .i64 k ∧ lv = .int .i64 (t - sumI ((baseP t S W).take k)) ∧ wq.ownsRow Wo.heap.size 3 1 ov k (((baseP t S W).take k).map cI) ∧ wq.ownsRow Wo.heap.size 3 1 dv k ((idxs k).map cI) ∧ Two ov dv ∧ Below Wo.heap.size Wo wq) (fun _ _ _ iv _ => n - (intOf iv).toNat)
            case atStart => exact ⟨0, by omega, rfl, by simp [sumI], World.ownsRow_nil _ _ _ _, World.ownsRow_nil _ _ _ _, fun b h => by simp [Value.ownBlock] at h, brefl⟩
            case round =>
              obtain ⟨k2, hk2, rfl, rfl, hro, hrd, htw, hbq⟩ := hrel
              have q2 := (hbq.cell (p := ⟨w.heap.size, 0, none⟩) (by exact z4)).trans y2
              have q6 := (hbq.cell (p := ⟨w1.heap.size, 0, none⟩) (by exact hzr)).trans h6
              have zq := hbq.size
              have zq4 : w.heap.size < wr.heap.size := by omega
              have zq6 : w1.heap.size < wr.heap.size := by omega
              obtain ⟨A0, hA0⟩ : ∃ A0, sumI ((baseP t S W).take k2) = A0 := ⟨_, rfl⟩
              have bA := HBS.out k2
              rw [← HS0.out, hA0] at bA
              have HRO := Lib.hid hro
              have HRD := Lib.hid hrd
              have HTW := Lib.hid htw
              have HBQ := Lib.hid hbq
              have hbq3 := hbq
              clear hro hrd htw hbq
              by_cases hlt : k2 < n
              · clear hbq3
                obtain ⟨b, off, x, rfl, -, -, hx, hc⟩ := (HS.out.below (bup (bup HB1.out HBR.out) HBQ.out)).int hlt
                obtain ⟨x', hx', hbx⟩ := HTK.out k2 hlt
                cases hx.symm.trans hx'
                have bx := HW.out x (List.mem_of_getElem? hx)
                have px := mul_bd t0 t1 bx.1 bx.2
                have bA1 := HBS.out (k2 + 1)
                rw [← HS0.out, take_snocZ hbx, sumI_append, hA0] at bA1
                have eq1 : (t * x).tdiv S = t * x / S := Int.tdiv_eq_ediv_of_nonneg px.1
                have HBX := Lib.hid hbx
                obtain ⟨p, hp⟩ : ∃ p, t * x = p := ⟨_, rfl⟩
                obtain ⟨q, hq⟩ : ∃ q, p / S = q := ⟨_, rfl⟩
                have qb : 0 ≤ q ∧ q ≤ 1000000000000 := by
                  simp only [sumI, hp, hq] at bA1
                  have : 0 ≤ q := by rw [← hq, ← hp]; exact Int.ediv_nonneg px.1 (by omega)
                  omega
                have HNX := Lib.hid (show (baseP t S W).take (k2 + 1) = (baseP t S W).take k2 ++ [q] by rw [take_snocZ hbx, hp, hq])
                rw [hp] at px eq1
                rw [hq] at eq1
                have wp_ : IntKind.i64.wrap p = p := IntWalk.i64_in _ (by omega)
                have wq_ : IntKind.i64.wrap q = q := IntWalk.i64_in _ (by omega)
                clear hx hx' hbx
                go_wp2_with (first
                  | (at_builtin; refine wpList_append_lies _ rfl _ _ 22 rfl Wo.heap.size 3 i1 (.int .i64 0) 1 8 Try.underlying22 hi hz0 hz1 hz2 rfl (by decide) u10 k2 (((baseP t S W).take k2).map cI) rfl (HRO.out.alloc _) ⟨wr.heap.size, 0, none⟩ 1 1 [.int .i64 q] rfl rfl (news1 _ _ _) (one1 _ _) (by omega) (by unfold maxLen; omega) (by omega) (by simp; omega) (wr.heap.size + 1) (by simp) ?_; intro g1 c1 w2 o2 gr2 at2 lt2; have hd2 := (HRD.out.alloc _).kept gr2 (two_far HTW.out); have b2 : Below Wo.heap.size Wo w2 := (HBQ.out.alloc HBQ.out.size _).grown gr2 (by simp; omega) (fun q hq => (HRO.out.lt q hq).1); have f2 := two_new (n := k2 + 1) (c := c1) HRD.out HTW.out (at2.imp id fun e => by simpa using e); have O2 := Lib.hid o2; have D2 := Lib.hid hd2; have B2 := Lib.hid b2; have F2 := Lib.hid f2; clear o2 gr2 at2 hd2 b2 f2)
                  | (at_builtin; refine wpList_append_lies _ rfl _ _ 22 rfl Wo.heap.size 3 i1 (.int .i64 0) 1 8 Try.underlying22 hi hz0 hz1 hz2 rfl (by decide) u11 k2 ((idxs k2).map cI) rfl (D2.out.alloc _) ⟨w2.heap.size, 0, none⟩ 1 1 [.int .i64 k2] rfl rfl (news1 _ _ _) (one1 _ _) (by omega) (by unfold maxLen; omega) (by omega) (by have := B2.out.size; simp; omega) (w2.heap.size + 1) (by simp) ?_; intro g2 c2 w3 o3 gr3 at3 lt3; have hd3 := (O2.out.alloc _).kept gr3 (F2.out); have b3 : Below Wo.heap.size Wo w3 := (B2.out.alloc B2.out.size _).grown gr3 (by have := B2.out.size; simp; omega) (fun q hq => (D2.out.lt q hq).1); have hco := cell_last hd3; have O3 := Lib.hid o3; have D3 := Lib.hid hd3; have B3 := Lib.hid b3; have F3 := Lib.hid (two_end (n := k2 + 1) (c := c1) (c' := c2) F2.out lt2 at3); have ho3 := hd3.frozenAt 0; clear o3 gr3 at3 hd3 b3 ho3))
                clear HRO HRD HTW
                have hA1 : sumI ((baseP t S W).take (k2 + 1)) = A0 + q := by rw [HNX.out, sumI_append, hA0]; simp [sumI]
                have HA1 := Lib.hid hA1
                clear hA1 hA0
                go_roundw
                case rel =>
                  refine ⟨k2 + 1, by omega, by go_num, ?_, ?_, ?_, F3.out, B3.out⟩
                  · rw [HA1.out]; go_num
                  · rw [HNX.out, List.map_append]; exact D3.out
                  · rw [idxs_succ, List.map_append]; exact O3.out
                case measure => simp [intOf]; omega
              · have hkn : k2 = n := by omega
                subst hkn
                obtain ⟨g1, c1, rfl, hg1, hg1z⟩ := HRO.out.form (by omega)
                obtain ⟨g2, c2, rfl, hg2', hg2z⟩ := HRD.out.form (by omega)
                have hgg : g1 ≠ g2 := fun e => HTW.out g1 rfl (by rw [e]; rfl)
                have q3 := (hbq3.cell (p := ⟨w.heap.size + 1, 0, none⟩) (by exact z5)).trans y3
                have HRI := Lib.hid (show RowI Wo.heap.size g2 k2 c2 (idxs k2) wr from ⟨HRD.out, idxs_length _⟩)
                have HRU := Lib.hid (show RowI Wo.heap.size g1 k2 c1 (baseP t S W) wr from ⟨by have h := HRO.out; rw [take_all (by simp [baseP, HN.out])] at h; exact h, by simp [baseP, HN.out]⟩)
                have hcap : k2 ≤ c2 := HRD.out.cap_le
                have HLB := Lib.hid (left_bd (t := t) (W := W) t0 (by rw [← HS0.out]; exact hsp))
                rw [take_all (by simp [baseP, HN.out])] at hA0
                obtain ⟨m, hm⟩ := Int.eq_ofNat_of_zero_le (show 0 ≤ t - A0 by omega)
                have hml : leftP t S W = m := by rw [leftP, hA0]; exact hm
                have hm2 : t - sumI ((baseP t S W).take k2) = m := by rw [take_all (by simp [baseP, HN.out]), hA0]; exact hm
                have hmk : m < k2 := by have h := HLB.out.2; rw [← HS0.out, hml, HN.out] at h; omega
                have HML := Lib.hid hml
                have HSL := Lib.hid ((HS.out.mono (Q := fun b => b < w.heap.size) (fun b _ h => h)).below (bup (bup HB1.out HBR.out) HBQ.out))
                have HSO := Lib.hid (sortStable_any 77 #[.pointer (some ⟨w.heap.size, 0, none⟩), .pointer (some ⟨w.heap.size + 1, 0, none⟩), .pointer (some ⟨w1.heap.size, 0, none⟩)] (cfP t S W) (fun x => 0 ≤ x ∧ x < W.length) Wo.heap.size g2 k2 c2 (idxs k2) wr (enters_of Try.func77 (by kernel_rfl) rfl)
                  (fun W' hW x y hx hy => parts2_any w.heap.size (w.heap.size + 1) w1.heap.size t S (.slice ao k2 c) (fun b => b < w.heap.size) W x y W' ⟨hW.cell (by simpa using q2) (by simp; omega), hW.cell (by simpa using q3) (by simp; omega), hW.cell q6 (by simp; omega), HSL.out.grown hW (fun b hb => by omega)⟩ t0 t1 hsp (by omega) HW.out (by rw [HN.out]; omega) hx.1 hx.2 hy.1 hy.2)
                  (cfP_wk _ _ _) (fun x hx => by have := idxs_mem hx; rw [HN.out]; exact this) HRI.out (by omega))
                have HORD := Lib.hid (show ordP t S W = srt (ltc (cfP t S W)) (idxs k2) by rw [ordP, HN.out])
                have HTK2 := Lib.hid (fun x (h : x ∈ ordP t S W) => ordP_mem h)
                have HBD := Lib.hid (base_bd (t := t) (W := W) t0 (by rw [← HS0.out]; exact hsp) (fun x hx => (HW.out x hx).1))
                have HLEN := Lib.hid (show (ordP t S W).length = k2 by rw [ordP_length, HN.out])
                clear HRO HRD HTW HRI HLB hml hA0 hm
                go_wp2_with (go_at_call 76; refine HSO.out.mono ?_; rintro e w2 ⟨rfl, hr2, hg2⟩)
                have HG2 := Lib.hid hg2
                have HR2 := Lib.hid (HORD.out ▸ hr2 : RowI Wo.heap.size g2 k2 c2 (ordP t S W) w2)
                have HU2 := Lib.hid (show RowI Wo.heap.size g1 k2 c1 (baseP t S W) w2 from ⟨HRU.out.1.kept hg2 (.inr (by simpa [Value.ownBlock] using hgg)), HRU.out.2⟩)
                clear hr2 hg2 q2 q3 q6 HSO
                go_loopw [72] (fun iv wz => ∃ (k : Nat), k ≤ m ∧ iv = .int .i64 k ∧ RowI Wo.heap.size g1 k2 c1 (bump (baseP t S W) ((ordP t S W).take k)) wz ∧ w2.grownBy wz (some g1)) (fun iv _ => m - (intOf iv).toNat)
                case atStart => exact ⟨0, by omega, rfl, HU2.out, grefl _ _⟩
                case round =>
                  obtain ⟨k3, hk3, rfl, hru, hgr⟩ := hrel
                  by_cases hlt3 : k3 < m
                  · obtain ⟨x, hx⟩ : ∃ x, (ordP t S W)[k3]? = some x := ⟨_, List.getElem?_eq_getElem (by have := HLEN.out; omega)⟩
                    have bx := HTK2.out x (List.mem_of_getElem? hx)
                    rw [HN.out] at bx
                    obtain ⟨a, rfl⟩ := Int.eq_ofNat_of_zero_le bx.1
                    have cx := (hgr.cell (HR2.out.at_ hx).1 (by simpa using Ne.symm hgg))
                    obtain ⟨y, hy⟩ : ∃ y, (bump (baseP t S W) ((ordP t S W).take k3))[a]? = some y := ⟨_, List.getElem?_eq_getElem (by rw [hru.2]; omega)⟩
                    obtain ⟨cy, fy⟩ := hru.at_ hy
                    have by_ := bump_bd (baseP t S W) ((ordP t S W).take k3) (B := t) (by rw [HS0.out]; exact HBD.out) y (List.mem_of_getElem? hy)
                    have hlk : ((ordP t S W).take k3).length ≤ k3 := by rw [List.length_take]; omega
                    have hset := hru.set a (y + 1)
                    have hbump : bump (baseP t S W) ((ordP t S W).take (k3 + 1)) = (bump (baseP t S W) ((ordP t S W).take k3)).set a (y + 1) := by
                      rw [take_snocZ hx, bump_append]
                      simp [bump, List.getD_eq_getElem?_getD, hy]
                    have HSET := Lib.hid hset
                    have HGR := Lib.hid hgr
                    have HBM := Lib.hid hbump
                    have y0 : 0 ≤ y := by_.1
                    have y1 : y ≤ 2000000000000 := by omega
                    have ha : (a : Int) < k2 := bx.2
                    have ha2 : a < k2 := by omega
                    have h3 : (k3 : Int) < m := by omega
                    clear hset hgr hbump hru hx hy by_ hlk
                    go_wp2
                    go_roundw
                    case rel => exact ⟨k3 + 1, by omega, by go_num, by rw [HBM.out]; exact HSET.out.1, gtrans HGR.out HSET.out.2⟩
                    case measure => simp [intOf]; omega
                  · have hkm : k3 = m := by omega
                    subst hkm
                    have HRF := Lib.hid (show RowI Wo.heap.size g1 k2 c1 (partsR t S W) wr from by rw [partsR, HML.out]; exact hru)
                    have HGR := Lib.hid hgr
                    clear hru hgr
                    go_wp2
                    go_ret2
                    rw [HE1.out, HL.out]
                    have hz : Wo.heap.size ≤ w2.heap.size := by have h1 := HBQ.out.size; have h2 := HG2.out.size; omega
                    have hb : Below Wo.heap.size Wo _ := (HBQ.out.grown HG2.out (by have := HBQ.out.size; omega) (fun q hq => by cases hq; exact hg2')).grown HGR.out hz (fun q hq => by cases hq; exact hg1)
                    exact ⟨_, rfl, Sl.own encI_len (by rw [flatI]; exact HRF.out.1) HRF.out.2 (fun b h => by omega), bup (bup HB1.out HBR.out) hb⟩
  · have hE : partsE t W = 2 := by unfold partsE; rw [hT, hA]; rfl
    have hL : partsL t W = [] := by unfold partsL; rw [hE]; rfl
    rw [hE]
    have HL := Lib.hid hL
    have HA := Lib.hid hA
    clear hE hL hT hA
    go_enter Try.func67, Try.ntmps67
    go_wp2_with (go_at_call 46; refine (valid_any _ _).mono ?_; rw [HT.out]; rintro e w1 ⟨rfl, rfl⟩)
    go_wp2_with fail
    refine (HWG.out _ (bal (bal brefl _) _)).mono ?_
    rw [HA.out]
    rintro e w1 ⟨rfl, hb1⟩
    go_wp2
    go_ret2
    exact partsMade_nil HL.out (bup (bal (bal brefl _) _) hb1)
end Go.Proofs.Ytenbbmmbpjjjpaa
namespace Go.Proofs.Ytenbbmmbpjjjpaa
open Go.RowKit
set_option linter.unusedVariables false
set_option linter.unusedSimpArgs false
theorem sumI_set {L : List Int} {i : Nat} {y : Int} (h : i < L.length) : sumI (L.set i y) = sumI L + y - L.getD i 0 := by
  induction L generalizing i with
  | nil => simp at h
  | cons x L ih =>
    cases i with
    | zero => simp [sumI]; omega
    | succ i =>
      have := ih (i := i) (by simpa using h)
      simp only [List.set_cons_succ, sumI, this, List.getD_cons_succ]; omega
theorem sumI_bump : ∀ (L I : List Int), (∀ x ∈ I, 0 ≤ x ∧ x < L.length) → sumI (bump L I) = sumI L + I.length
  | L, [], _ => by simp [bump]
  | L, i :: I, h => by
    have hi := h i (List.mem_cons_self ..)
    rw [bump, sumI_bump _ I (fun x hx => by rw [List.length_set]; exact h x (List.mem_cons_of_mem _ hx)), sumI_set (by omega)]
    simp only [List.length_cons]; omega
theorem bump_far : ∀ (L I : List Int) (k : Nat), (∀ x ∈ I, 0 ≤ x ∧ x ≠ k) → (bump L I)[k]? = L[k]?
  | L, [], _, _ => rfl
  | L, i :: I, k, h => by
    have hi := h i (List.mem_cons_self ..)
    rw [bump, bump_far _ I k (fun x hx => h x (List.mem_cons_of_mem _ hx)), List.getElem?_set_ne (by omega)]
theorem bump_at : ∀ (L I : List Int) (k : Nat) (z : Int), I.Nodup → (∀ x ∈ I, 0 ≤ x) → (k : Int) ∈ I → L[k]? = some z → (bump L I)[k]? = some (z + 1)
  | L, [], k, z, _, _, h, _ => by simp at h
  | L, i :: I, k, z, hn, h0, h, hz => by
    rw [List.nodup_cons] at hn
    rw [bump]
    by_cases hik : i = k
    · subst hik
      have hk : k < L.length := (List.getElem?_eq_some_iff.1 hz).1
      rw [bump_far _ I k (fun x hx => ⟨h0 x (List.mem_cons_of_mem _ hx), fun e => hn.1 (e ▸ hx)⟩)]
      rw [show ((k : Int)).toNat = k by omega, List.getElem?_set_self hk, List.getD_eq_getElem?_getD, hz]; rfl
    · have hm : (k : Int) ∈ I := by
        rcases List.mem_cons.1 h with h | h
        · exact absurd h.symm hik
        · exact h
      have hi0 := h0 i (List.mem_cons_self ..)
      exact bump_at _ I k z hn.2 (fun x hx => h0 x (List.mem_cons_of_mem _ hx)) hm (by rw [List.getElem?_set_ne (by omega)]; exact hz)
theorem idxs_nodup (n : Nat) : (idxs n).Nodup := by
  unfold idxs
  refine List.Pairwise.map _ ?_ List.nodup_range
  intro a b h; omega
theorem ordP_nodup (t s : Int) (W : List Int) : (ordP t s W).Nodup := (srt_perm _).nodup_iff.2 (idxs_nodup _)
theorem ordP_mem2 {t s : Int} {W : List Int} {k : Nat} (h : k < W.length) : (k : Int) ∈ ordP t s W := (srt_mem _ _).2 (by simp only [idxs, List.mem_map, List.mem_range]; exact ⟨k, h, rfl⟩)
theorem ordP_split {t s : Int} {W : List Int} (m : Nat) {x y : Int} (hx : x ∈ (ordP t s W).take m) (hy : y ∈ (ordP t s W).drop m) : rAt t s W y ≤ rAt t s W x := by
  have h := srt_asc (cfP_wk t s W) (idxs W.length)
  have e : srt (ltc (cfP t s W)) (idxs W.length) = (ordP t s W).take m ++ (ordP t s W).drop m := (List.take_append_drop m _).symm
  rw [e, asc_append] at h
  have h3 : ¬ cfP t s W y x < 0 := by simpa [ltc] using h.2.2 x hx y hy
  rcases Int.lt_or_le (rAt t s W x) (rAt t s W y) with h | h
  · exact absurd (show cfP t s W y x < 0 by unfold cfP cmpI; rw [if_pos h]; omega) h3
  · exact h
theorem sumI_perm {A B : List Int} (h : A.Perm B) : sumI A = sumI B := by
  induction h with
  | nil => rfl
  | cons x _ ih => simp only [sumI, ih]
  | swap x y l => simp only [sumI]; omega
  | trans _ _ ih1 ih2 => rw [ih1, ih2]
theorem rAt_get {t s : Int} {W : List Int} {k : Nat} {v : Int} (h : W[k]? = some v) : rAt t s W k = t * v % s := by simp [rAt, rstP, List.getD_eq_getElem?_getD, h]
theorem rAt_bd {t s : Int} {W : List Int} (hs : 0 < s) (k : Int) : 0 ≤ rAt t s W k ∧ rAt t s W k ≤ s - 1 := by
  unfold rAt
  rw [List.getD_eq_getElem?_getD]
  cases h : (rstP t s W)[k.toNat]? with
  | none => simp; omega
  | some v =>
    simp only [rstP, List.getElem?_map, Option.map_eq_some_iff] at h
    obtain ⟨a, _, rfl⟩ := h
    have h1 := Int.emod_nonneg (t * a) (show s ≠ 0 by omega)
    have h2 := Int.emod_lt_of_pos (t * a) hs
    simp; omega
theorem map_rAt (t s : Int) (W : List Int) : (idxs W.length).map (rAt t s W) = rstP t s W := by
  refine List.ext_getElem? fun k => ?_
  by_cases h : k < W.length
  · simp [idxs, rAt, rstP, h]
  · rw [List.getElem?_eq_none (by simp [idxs]; omega), List.getElem?_eq_none (by simp [rstP]; omega)]
theorem sum_ord (t s : Int) (W : List Int) : sumI ((ordP t s W).map (rAt t s W)) = sumI (rstP t s W) := by
  rw [← map_rAt]
  exact sumI_perm ((srt_perm _).map _)
theorem sum_le_of {L : List Int} {f : Int → Int} {B : Int} (h : ∀ x ∈ L, f x ≤ B) : sumI (L.map f) ≤ L.length * B := by
  have := sumI_le (L := L.map f) (B := B) (fun x hx => by obtain ⟨y, hy, rfl⟩ := List.mem_map.1 hx; exact h y hy)
  rwa [List.length_map] at this
/-- no rest, no more -/
theorem rest_zero_s {t s : Int} {W : List Int} (h0 : 0 ≤ t) (hs : 0 < s) (hS : sumI W = s) {k : Int} (hr : rAt t s W k = 0) : k ∉ (ordP t s W).take (leftP t s W).toNat := by
  intro hk
  have hl := left_bd (t := t) (W := W) h0 (by omega)
  have e := sum_split t s W
  have eo := sum_ord t s W
  rw [hS] at hl e
  obtain ⟨m, hm⟩ := Int.eq_ofNat_of_zero_le hl.1
  rw [hm] at hk hl
  have hmt : ((m : Int)).toNat = m := by omega
  rw [hmt] at hk
  have hO : ordP t s W = (ordP t s W).take m ++ (ordP t s W).drop m := (List.take_append_drop m _).symm
  have hD : sumI (((ordP t s W).drop m).map (rAt t s W)) ≤ ((ordP t s W).drop m).length * 0 := sum_le_of fun y hy => by have := ordP_split m hk hy; omega
  obtain ⟨A, B, hAB⟩ := List.append_of_mem hk
  have hT : sumI (((ordP t s W).take m).map (rAt t s W)) ≤ ((A ++ B).length : Int) * (s - 1) := by
    rw [hAB, List.map_append, List.map_cons, sumI_append, sumI, hr]
    have h1 := sum_le_of (L := A) (f := rAt t s W) (B := s - 1) fun x _ => (rAt_bd hs x).2
    have h2 := sum_le_of (L := B) (f := rAt t s W) (B := s - 1) fun x _ => (rAt_bd hs x).2
    rw [List.length_append, show ((A.length + B.length : Nat) : Int) = A.length + B.length by omega, Int.add_mul]
    omega
  have hlen : (A ++ B).length + 1 ≤ m := by
    have : ((ordP t s W).take m).length ≤ m := by rw [List.length_take]; omega
    rw [hAB] at this
    simp only [List.length_append, List.length_cons] at this ⊢
    omega
  rw [hO, List.map_append, sumI_append] at eo
  have hleft : s * (m : Int) = sumI (rstP t s W) := by
    have : leftP t s W = m := hm
    unfold leftP at this
    rw [← this, Int.mul_sub, Int.mul_comm s t]; omega
  have h3 : ((A ++ B).length : Int) * (s - 1) ≤ ((m : Int) - 1) * (s - 1) := Int.mul_le_mul_of_nonneg_right (by omega) (by omega)
  have e5 : ((m : Int) - 1) * (s - 1) = s * m - m - (s - 1) := by rw [Int.sub_mul, Int.one_mul, Int.mul_sub, Int.mul_one, Int.mul_comm (m : Int) s]
  rw [e5] at h3
  omega
theorem rest_zero {t : Int} {W : List Int} (h0 : 0 ≤ t) (hs : 0 < sumI W) {k : Int} (hr : rAt t (sumI W) W k = 0) : k ∉ (ordP t (sumI W) W).take (leftP t (sumI W) W).toNat := rest_zero_s h0 hs rfl hr
theorem parts_len (t s : Int) (W : List Int) : (partsR t s W).length = W.length := by rw [partsR, bump_length]; simp [baseP]
theorem parts_get {t s : Int} {W : List Int} {k : Nat} {v : Int} (h : W[k]? = some v) :
    (partsR t s W)[k]? = some (t * v / s + if (k : Int) ∈ (ordP t s W).take (leftP t s W).toNat then 1 else 0) := by
  have hb : (baseP t s W)[k]? = some (t * v / s) := by simp [baseP, h]
  have hm : ∀ x ∈ (ordP t s W).take (leftP t s W).toNat, 0 ≤ x := fun x hx => (ordP_mem (List.mem_of_mem_take hx)).1
  unfold partsR
  split
  · rename_i hk
    exact bump_at _ _ k _ ((ordP_nodup t s W).sublist (List.take_sublist _ _)) hm hk hb
  · rename_i hk
    rw [bump_far _ _ k fun x hx => ⟨hm x hx, fun e => hk (e ▸ hx)⟩, hb]; simp
structure PartsFair (t : Int) (W p : List Int) : Prop where
  len : p.length = W.length
  get : ∀ (k : Nat) (v : Int), W[k]? = some v → ∃ x, p[k]? = some x ∧ t * v / sumI W ≤ x ∧ x ≤ t * v / sumI W + 1 ∧ (t * v % sumI W = 0 → x = t * v / sumI W) ∧ (v = 0 → x = 0)
  pair : ∀ (i k : Nat) (v u x y : Int), W[i]? = some v → W[k]? = some u → p[i]? = some x → p[k]? = some y → u < v → y ≤ x
  sum : sumI p = t
theorem PartsFair.nonneg {t : Int} {W p : List Int} (h : PartsFair t W p) (h0 : 0 ≤ t) (hs : 0 < sumI W) (hw : ∀ w ∈ W, 0 ≤ w) : ∀ x ∈ p, 0 ≤ x := by
  intro x hx
  obtain ⟨i, hi, rfl⟩ := List.getElem_of_mem hx
  obtain ⟨v, hv⟩ : ∃ v, W[i]? = some v := ⟨_, List.getElem?_eq_getElem (by have := h.len; omega)⟩
  obtain ⟨y, hy, h1, _⟩ := h.get i v hv
  rw [List.getElem?_eq_getElem hi] at hy
  cases hy
  have := Int.ediv_nonneg (Int.mul_nonneg h0 (hw v (List.mem_of_getElem? hv))) (show 0 ≤ sumI W by omega)
  omega
theorem PartsFair.take {t : Int} {W p : List Int} (h : PartsFair t W p) (h0 : 0 ≤ t) (hs : 0 < sumI W) (hw : ∀ w ∈ W, 0 ≤ w) (k : Nat) : 0 ≤ sumI (p.take k) ∧ sumI (p.take k) ≤ t := by
  have hn := h.nonneg h0 hs hw
  have e : sumI (p.take k) + sumI (p.drop k) = t := by rw [← sumI_append, List.take_append_drop]; exact h.sum
  have h1 := sumI_nonneg (L := p.take k) (fun x hx => hn x (List.mem_of_mem_take hx))
  have h2 := sumI_nonneg (L := p.drop k) (fun x hx => hn x (List.mem_of_mem_drop hx))
  omega
theorem parts_fair {t : Int} {W : List Int} (h0 : 0 ≤ t) (hs : 0 < sumI W) (hw : ∀ w ∈ W, 0 ≤ w) : PartsFair t W (partsR t (sumI W) W) := by
  refine ⟨parts_len _ _ _, fun k v hv => ?_, fun i k v u x y hv hu hx hy huv => ?_, ?_⟩
  · refine ⟨_, parts_get hv, ?_⟩
    have hz : t * v % sumI W = 0 → (k : Int) ∉ (ordP t (sumI W) W).take (leftP t (sumI W) W).toNat := fun h => rest_zero h0 hs (by rw [rAt_get hv]; exact h)
    refine ⟨by split <;> omega, by split <;> omega, fun h => by rw [if_neg (hz h)]; omega, fun h => ?_⟩
    subst h
    rw [if_neg (hz (by simp))]; simp
  · rw [parts_get hv] at hx
    rw [parts_get hu] at hy
    cases hx; cases hy
    have hm : t * u ≤ t * v := Int.mul_le_mul_of_nonneg_left (by omega) h0
    have hd := Int.ediv_le_ediv hs hm
    have e1 := Int.mul_ediv_add_emod (t * u) (sumI W)
    have e2 := Int.mul_ediv_add_emod (t * v) (sumI W)
    rcases Int.lt_or_le (t * u / sumI W) (t * v / sumI W) with h | h
    · split <;> split <;> omega
    · have he : t * u / sumI W = t * v / sumI W := by omega
      rw [he] at e1 ⊢
      split
      · rename_i hk
        rw [if_pos]
        · omega
        · rcases Int.lt_or_le (t * u % sumI W) (t * v % sumI W) with hr | hr
          · have := ordP_mem2 (t := t) (s := sumI W) (List.getElem?_eq_some_iff.1 hv).1
            rw [← List.take_append_drop (leftP t (sumI W) W).toNat (ordP t (sumI W) W), List.mem_append] at this
            rcases this with h | h
            · exact h
            · have := ordP_split _ hk h
              rw [rAt_get hv, rAt_get hu] at this; omega
          · -- equal products
            have heq : t * u = t * v := by omega
            have ht : t = 0 := by
              rcases Int.lt_or_le 0 t with h | h
              · have := Int.mul_lt_mul_of_pos_left huv h; omega
              · omega
            exfalso
            refine rest_zero h0 hs (k := k) ?_ hk
            rw [rAt_get hu, ht]; simp
      · split <;> omega
  · rw [partsR, sumI_bump _ _ fun x hx => by have := ordP_mem (List.mem_of_mem_take hx); simpa [baseP] using this]
    have hl := left_bd (t := t) (W := W) h0 hs
    rw [List.length_take, ordP_length]
    unfold leftP at hl ⊢
    omega
end Go.Proofs.Ytenbbmmbpjjjpaa
