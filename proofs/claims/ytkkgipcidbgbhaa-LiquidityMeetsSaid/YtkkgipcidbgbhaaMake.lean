/- The contract of liquidity's Make. -/
import Derived.Test.YtkkgipcidbgbhaaPlan
import Derived.BigQuiet
import Derived.Deep.DeepMust
namespace Go.Proofs.Ytkkgipcidbgbhaa
open Go.RowKit
set_option linter.unusedVariables false

theorem dec_bd0 (lo hi lot mr mp n : Int) : 0 ≤ decR lo hi lot mr mp n ∧ decR lo hi lot mr mp n ≤ 1000000000000 ∧ 0 ≤ decP lo hi lot mr mp n ∧ decP lo hi lot mr mp n ≤ 1000000000000 := by
  by_cases hg : (bandB lo hi lot mr mp && inB n (-1000000000000000) 1000000000000000) = true
  · obtain ⟨g1, g2, _⟩ := dec_good lo hi lot mr mp n hg
    rw [Bool.and_eq_true] at hg
    obtain ⟨a1, a2, a3, a4, a5, a6, a7, a8, a9⟩ := bandB_iff.1 hg.1
    have c1 := ceil_bd (lo - n) lot a4
    have c2 := ceil_bd (n - hi) lot a4
    rw [g1, g2]
    refine ⟨?_, ?_, ?_, ?_⟩ <;> (repeat' split) <;> omega
  · obtain ⟨g1, g2, _⟩ := dec_bad lo hi lot mr mp n (by simpa using hg)
    rw [g1, g2]
    omega
/-- the plans of the first n positions -/
def mkL (lo hi lot mr mp : Int) (d a : Nat → Int) : Nat → List (Int × Int × Int)
  | 0 => []
  | k + 1 => mkL lo hi lot mr mp d a k ++ (if 0 < decR lo hi lot mr mp (a k) + decP lo hi lot mr mp (a k) then [(d k, decR lo hi lot mr mp (a k), decP lo hi lot mr mp (a k))] else [])
theorem mkL_le (lo hi lot mr mp : Int) (d a : Nat → Int) : ∀ n, (mkL lo hi lot mr mp d a n).length ≤ n
  | 0 => Nat.le_refl _
  | n + 1 => by
    have := mkL_le lo hi lot mr mp d a n
    simp only [mkL, List.length_append]
    split <;> simp <;> omega
theorem mkL_put {lo hi lot mr mp : Int} {d a : Nat → Int} {k : Nat} {x r p : Int} (hd : d k = x) (hr : decR lo hi lot mr mp (a k) = r) (hp : decP lo hi lot mr mp (a k) = p) (h : 0 < r + p) : mkL lo hi lot mr mp d a (k + 1) = mkL lo hi lot mr mp d a k ++ [(x, r, p)] := by
  simp only [mkL, hr, hp, hd, if_pos h]
theorem mkL_skip {lo hi lot mr mp : Int} {d a : Nat → Int} {k : Nat} {r p : Int} (hr : decR lo hi lot mr mp (a k) = r) (hp : decP lo hi lot mr mp (a k) = p) (h : ¬ 0 < r + p) : mkL lo hi lot mr mp d a (k + 1) = mkL lo hi lot mr mp d a k := by
  simp only [mkL, hr, hp, if_neg h, List.append_nil]
/-- the first position for which nothing does, or -1 -/
def mkF (lo hi lot mr mp : Int) (n : Nat) (a : Nat → Int) : Int := fstI (fun j => !decO lo hi lot mr mp (a j)) n
def mkE (lo hi lot mr mp : Int) (n : Nat) (d a : Nat → Int) : Int := if lcE lo hi lot mr mp n d a = 0 then (if 0 ≤ mkF lo hi lot mr mp n a then 10 else 0) else lcE lo hi lot mr mp n d a
def mkD (lo hi lot mr mp : Int) (n : Nat) (d a : Nat → Int) : Int := if lcE lo hi lot mr mp n d a = 0 then (if 0 ≤ mkF lo hi lot mr mp n a then d (mkF lo hi lot mr mp n a).toNat else -1) else -1
def mkP (lo hi lot mr mp : Int) (n : Nat) (d a : Nat → Int) : List (Int × Int × Int) := if mkE lo hi lot mr mp n d a = 0 then mkL lo hi lot mr mp d a n else []
/-- what Make leaves -/
def Made (L : List (Int × Int × Int)) (D E : Int) (w : World) (e : Ending) (w' : World) : Prop :=
  ∃ v, e = .returned (.tuple #[v, .int .i64 D, .int .i64 E]) ∧ w'.ownsRow w.heap.size 53 3 v L.length (flat3 L) ∧ Below w.heap.size w w'
theorem made_nil {w w' : World} {L : List (Int × Int × Int)} {D E D' E' : Int} (hL : L = []) (hD : D = D') (hE : E = E') (hb : Below w.heap.size w w') : Made L D E w (.returned (.tuple #[.slice none 0 0, .int .i64 D', .int .i64 E'])) w' := by
  subst hL hD hE
  exact ⟨_, rfl, World.ownsRow_nil _ _ _ _, hb⟩
theorem below_drew {B : Nat} {a w : World} (h : Below B a w) (n : Nat) : Below B a (w.drewN n) := ⟨h.os, h.tape, h.output, h.size, h.block⟩
theorem ownsRow_base {w : World} {b b' : Nat} {e : TypeId} {size : Nat} {v : Value} {n : Nat} {xs : List Value} (h : w.ownsRow b e size v n xs) (hb : b' ≤ b) : w.ownsRow b' e size v n xs := by
  refine ⟨h.1, ?_⟩
  rcases h.2 with hn | ⟨g, cap, cur, rfl, hbg, rest⟩
  · exact .inl hn
  · exact .inr ⟨g, cap, cur, rfl, by omega, rest⟩

set_option maxHeartbeats 2000000 in
set_option maxRecDepth 100000 in
theorem make_any (lo hi lot mr mp : Int) (ao : Option Addr) (n c : Nat) (d a : Nat → Int) (w : World) (hn : n ≤ 1000000) (h : PosAt w ao n c d a) :
    Calls Try.prog 12 #[.agg #[.int .i64 lo, .int .i64 hi, .int .i64 lot, .int .i64 mr, .int .i64 mp], .slice ao n c] w (Made (mkP lo hi lot mr mp n d a) (mkD lo hi lot mr mp n d a) (mkE lo hi lot mr mp n d a) w) := by
  have H := Lib.hid (h.alloc (.cells #[.int .i64 lo, .int .i64 hi, .int .i64 lot, .int .i64 mr, .int .i64 mp] 26))
  clear h
  obtain ⟨ce, hce⟩ : ∃ ce, lcE lo hi lot mr mp n d a = ce := ⟨_, rfl⟩
  have HC := Lib.hid hce
  clear hce
  by_cases h0 : ce = 0
  · subst h0
    obtain ⟨i1, hi', iz0, iz1, iz2⟩ := info_parts infoPlan
    go_enter Try.func12, Try.ntmps12
    go_wp2_with fail
    refine (lcheck_any lo hi lot mr mp ao n c d a _ hn H.out).mono ?_
    rw [HC.out]
    rintro e w1 ⟨rfl, hb⟩
    have hz : w.heap.size < w1.heap.size := by have := hb.size; simp at this; omega
    have hB := below_box hb
    obtain ⟨hc, hf⟩ := bcell hb
    have b0 : w1.cell? ⟨w.heap.size, 0, none⟩ = some (.int .i64 lo) := by rw [hc _ _ (by simp), World.cell?_alloc_at _ _ _ _ rfl]; rfl
    have b1 : w1.cell? ⟨w.heap.size, 1, none⟩ = some (.int .i64 hi) := by rw [hc _ _ (by simp), World.cell?_alloc_at _ _ _ _ rfl]; rfl
    have b2 : w1.cell? ⟨w.heap.size, 2, none⟩ = some (.int .i64 lot) := by rw [hc _ _ (by simp), World.cell?_alloc_at _ _ _ _ rfl]; rfl
    have b3 : w1.cell? ⟨w.heap.size, 3, none⟩ = some (.int .i64 mr) := by rw [hc _ _ (by simp), World.cell?_alloc_at _ _ _ _ rfl]; rfl
    have b4 : w1.cell? ⟨w.heap.size, 4, none⟩ = some (.int .i64 mp) := by rw [hc _ _ (by simp), World.cell?_alloc_at _ _ _ _ rfl]; rfl
    have H1 := Lib.hid (H.out.below hb)
    clear hb hc hf
    go_wp2
    go_loopw [8, 22] (fun v iv wr => ∃ k : Nat, k ≤ n ∧ iv = .int .i64 k ∧ (∀ j, j < k → (!decO lo hi lot mr mp (a j)) = false) ∧ wr.ownsRow w1.heap.size 53 3 v (mkL lo hi lot mr mp d a k).length (flat3 (mkL lo hi lot mr mp d a k)) ∧ Below w1.heap.size w1 wr) (fun _ iv _ => n - (intOf iv).toNat)
    case atStart => exact ⟨0, by omega, rfl, by omega, World.ownsRow_nil _ _ _ _, Below.refl _ _⟩
    case round =>
      obtain ⟨k, hk, rfl, hall, hown, hbr⟩ := hrel
      have HA := Lib.hid hall
      clear hall
      have zr := hbr.size
      have hz1' : w.heap.size < wr.heap.size := by omega
      have c0 := (hbr.cell (p := ⟨w.heap.size, 0, none⟩) (by exact hz)).trans b0
      have c1 := (hbr.cell (p := ⟨w.heap.size, 1, none⟩) (by exact hz)).trans b1
      have c2 := (hbr.cell (p := ⟨w.heap.size, 2, none⟩) (by exact hz)).trans b2
      have c3 := (hbr.cell (p := ⟨w.heap.size, 3, none⟩) (by exact hz)).trans b3
      have c4 := (hbr.cell (p := ⟨w.heap.size, 4, none⟩) (by exact hz)).trans b4
      by_cases hlt : k < n
      · obtain ⟨b, off, rfl, hcc⟩ := (H1.out.below hbr).at_ (by omega)
        have hck := hcc k hlt
        obtain ⟨x, hx⟩ : ∃ x, d k = x := ⟨_, rfl⟩
        obtain ⟨y, hy⟩ : ∃ y, a k = y := ⟨_, rfl⟩
        obtain ⟨r, hr⟩ : ∃ r, decR lo hi lot mr mp y = r := ⟨_, rfl⟩
        obtain ⟨p, hp⟩ : ∃ p, decP lo hi lot mr mp y = p := ⟨_, rfl⟩
        obtain ⟨o, ho⟩ : ∃ o, decO lo hi lot mr mp y = o := ⟨_, rfl⟩
        have hbd := dec_bd0 lo hi lot mr mp y
        rw [hr, hp] at hbd
        obtain ⟨r0, r1, p0, p1⟩ := hbd
        rw [hx, hy] at hck
        obtain ⟨k0, k1⟩ := hck
        have HR := Lib.hid hr
        have HP := Lib.hid hp
        have HO := Lib.hid ho
        have HX := Lib.hid hx
        have HR' := Lib.hid (show decR lo hi lot mr mp (a k) = r by rw [hy]; exact hr)
        have HP' := Lib.hid (show decP lo hi lot mr mp (a k) = p by rw [hy]; exact hp)
        have HO' := Lib.hid (show (!decO lo hi lot mr mp (a k)) = !o by rw [hy, ho])
        clear hr hp ho hx hy hcc
        cases o
        · have hF := Lib.hid (fstI_some (p := fun j => !decO lo hi lot mr mp (a j)) hlt HO'.out HA.out)
          have hE := Lib.hid (show mkE lo hi lot mr mp n d a = 10 by unfold mkE mkF; rw [HC.out, if_pos rfl, hF.out, if_pos (by omega)])
          have hD := Lib.hid (show mkD lo hi lot mr mp n d a = x by unfold mkD mkF; rw [HC.out, if_pos rfl, hF.out, if_pos (by omega), Int.toNat_natCast, HX.out])
          have hL := Lib.hid (show mkP lo hi lot mr mp n d a = [] by unfold mkP; rw [hE.out, if_neg (by omega)])
          go_wp2_with fail
          refine (decide_any lo hi lot mr mp y _).mono ?_
          rw [HR.out, HP.out, HO.out]
          rintro e w2 ⟨rfl, hb2⟩
          have hB2 : Below w1.heap.size w1 w2 := (hbr.alloc zr _).trans (hb2.mono (by simp; omega))
          obtain ⟨hc2, hf2⟩ := bcell hb2
          have hz2 : wr.heap.size < w2.heap.size := by have := hb2.size; simp at this; omega
          clear hb2
          go_wp2
          go_quiet (fail)
          go_wp2
          go_ret3
          exact made_nil hL.out hD.out hE.out (below_drew (Below.trans hB (Below.mono hB2 (Nat.le_of_lt hz))) _)
        · have hstep := Lib.hid (show ∀ j, j < k + 1 → (!decO lo hi lot mr mp (a j)) = false from fun j hj => by
            rcases Nat.lt_or_ge j k with h | h
            · exact HA.out j h
            · rw [show j = k by omega]; exact HO'.out)
          by_cases hrp : 0 < r + p
          · have hput := Lib.hid (mkL_put HX.out HR'.out HP'.out hrp)
            go_wp2_with fail
            refine (decide_any lo hi lot mr mp y _).mono ?_
            rw [HR.out, HP.out, HO.out]
            rintro e w2 ⟨rfl, hb2⟩
            have hB2 : Below w1.heap.size w1 w2 := (hbr.alloc zr _).trans (hb2.mono (by simp; omega))
            obtain ⟨hc2, hf2⟩ := bcell hb2
            have hz2 : wr.heap.size < w2.heap.size := by have := hb2.size; simp at this; omega
            have hown2 := ownsRow_below (hown.alloc _) hb2
            have z2 := hB2.size
            have hle := mkL_le lo hi lot mr mp d a k
            clear hb2 hown
            go_wp2_with (at_builtin; go_loud (refine wpList_append_own _ rfl _ _ 30 rfl w1.heap.size 53 i1 (.agg #[.int .i64 0, .int .i64 0, .int .i64 0]) 3 24 Try.underlying30 hi' iz0 iz1 iz2 rfl (by decide) _ _ _ rfl (hown2.alloc _) ⟨w2.heap.size, 0, none⟩ 1 1 [.int .i64 x, .int .i64 r, .int .i64 p] rfl rfl (news3 _ _ _ _ _) (one3 _ _ _) (by unfold maxLen; omega) (by omega) (by simp; omega) ?_); intro v' w3 hown' hgrow _)
            have hB3 : Below w1.heap.size w1 w3 := (hB2.alloc hB2.size _).grown hgrow (by simp; omega) (fun q hq => (hown2.lt q hq).1)
            go_wp2
            go_roundw
            case rel => exact ⟨k + 1, by omega, by go_num, hstep.out, by rw [hput.out, flat3_append, List.length_append]; exact hown', hB3⟩
            case measure => simp [intOf]; omega
          · have hskip := Lib.hid (mkL_skip (d := d) HR'.out HP'.out hrp)
            go_wp2_with fail
            refine (decide_any lo hi lot mr mp y _).mono ?_
            rw [HR.out, HP.out, HO.out]
            rintro e w2 ⟨rfl, hb2⟩
            have hB2 : Below w1.heap.size w1 w2 := (hbr.alloc zr _).trans (hb2.mono (by simp; omega))
            have hown2 := ownsRow_below (hown.alloc _) hb2
            clear hb2 hown
            go_wp2
            go_roundw
            case rel => exact ⟨k + 1, by omega, by go_num, hstep.out, by rw [hskip.out]; exact hown2, hB2⟩
            case measure => simp [intOf]; omega
      · have hkn : k = n := by omega
        subst hkn
        have hF := Lib.hid (fstI_none (p := fun j => !decO lo hi lot mr mp (a j)) HA.out)
        have hE := Lib.hid (show mkE lo hi lot mr mp k d a = 0 by unfold mkE mkF; rw [HC.out, if_pos rfl, hF.out, if_neg (by omega)])
        have hD := Lib.hid (show mkD lo hi lot mr mp k d a = -1 by unfold mkD mkF; rw [HC.out, if_pos rfl, hF.out, if_neg (by omega)])
        have hL := Lib.hid (show mkP lo hi lot mr mp k d a = mkL lo hi lot mr mp d a k by unfold mkP; rw [hE.out, if_pos rfl])
        go_wp2
        go_ret3
        rw [hL.out, hD.out, hE.out]
        exact ⟨_, rfl, ownsRow_base hown (by omega), hB.trans (hbr.mono (by omega))⟩
  · have hE := Lib.hid (show mkE lo hi lot mr mp n d a = ce by unfold mkE; rw [HC.out, if_neg h0])
    have hD := Lib.hid (show mkD lo hi lot mr mp n d a = -1 by unfold mkD; rw [HC.out, if_neg h0])
    have hL := Lib.hid (show mkP lo hi lot mr mp n d a = [] by unfold mkP; rw [hE.out, if_neg h0])
    have h0' : (ce == 0) = false := by simpa using h0
    go_enter Try.func12, Try.ntmps12
    go_wp2_with fail
    refine (lcheck_any lo hi lot mr mp ao n c d a _ hn H.out).mono ?_
    rw [HC.out]
    rintro e w1 ⟨rfl, hb⟩
    have hB := below_box hb
    clear hb
    go_wp2
    go_ret3
    exact made_nil hL.out hD.out hE.out hB
end Go.Proofs.Ytkkgipcidbgbhaa
