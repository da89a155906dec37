/- LiquidityShifts. -/
import Derived.Test.YtmobjmgiilbbdaaL30Least
import Derived.Test.YtmobjmgiilbbdaaSrcPos
import Derived.Test.YtmobjmgiilbbdaaMake
import Derived.Test.YtmobjmgiilbbdaaPlans
namespace Go.Proofs.Ytmobjmgiilbbdaa
open Go.RowKit
set_option linter.unusedVariables false

/-- the positions moved by x, the first k -/
def movedL (d a : Nat → Int) (x : Int) (k : Nat) : List (Int × Int) := (List.range k).map fun j => (d j, a j + x)
theorem movedL_len (d a : Nat → Int) (x : Int) (k : Nat) : (movedL d a x k).length = k := by simp [movedL]
theorem movedL_succ (d a : Nat → Int) (x : Int) (k : Nat) : movedL d a x (k + 1) = movedL d a x k ++ [(d k, a k + x)] := by simp [movedL, List.range_succ]
theorem movedL_get (d a : Nat → Int) (x : Int) (k j : Nat) (hj : j < k) : pd2 (movedL d a x k) j = d j ∧ pa2 (movedL d a x k) j = a j + x := by
  simp [pd2, pa2, movedL, List.getD_eq_getElem?_getD, List.getElem?_range hj]
theorem PosAt.congr {w : World} {ao : Option Addr} {n c : Nat} {d a d' a' : Nat → Int} (h : PosAt w ao n c d a) (he : ∀ j, j < n → d j = d' j ∧ a j = a' j) : PosAt w ao n c d' a' := by
  obtain ⟨h1, h2, h3⟩ := h
  refine ⟨h1, h2, ?_⟩
  rcases h3 with h3 | ⟨b, off, k1, k2⟩
  · exact .inl h3
  · refine .inr ⟨b, off, k1, fun j hj => ?_⟩
    rw [← (he j hj).1, ← (he j hj).2]
    exact k2 j hj

theorem bandB_shift {lo hi lot mr mp x : Int} (h1 : bandB lo hi lot mr mp = true) (h2 : bandB (lo + x) (hi + x) lot mr mp = true) (n : Int) (hn : inB n (-1000000000000000) 1000000000000000 = true) (hn2 : inB (n + x) (-1000000000000000) 1000000000000000 = true) :
    decR (lo + x) (hi + x) lot mr mp (n + x) = decR lo hi lot mr mp n ∧ decP (lo + x) (hi + x) lot mr mp (n + x) = decP lo hi lot mr mp n ∧ decO (lo + x) (hi + x) lot mr mp (n + x) = decO lo hi lot mr mp n := by
  obtain ⟨g1, g2, g3⟩ := dec_good lo hi lot mr mp n (by rw [h1, hn]; rfl)
  obtain ⟨k1, k2, k3⟩ := dec_good (lo + x) (hi + x) lot mr mp (n + x) (by rw [h2, hn2]; rfl)
  rw [g1, g2, g3, k1, k2, k3]
  have e1 : lo + x - (n + x) = lo - n := by omega
  have e2 : n + x - (hi + x) = n - hi := by omega
  rw [e1, e2]
  have e3 : (n + x < lo + x) = (n < lo) := by rw [eq_iff_iff]; omega
  have e4 : (hi + x < n + x) = (hi < n) := by rw [eq_iff_iff]; omega
  have e5 : ∀ q, (n + x + q ≤ hi + x) = (n + q ≤ hi) := fun q => by rw [eq_iff_iff]; omega
  have e6 : ∀ q, (lo + x ≤ n + x - q) = (lo ≤ n - q) := fun q => by rw [eq_iff_iff]; omega
  simp only [e3, e4, e5, e6, and_self]

theorem mkL_congr {lo hi lot mr mp lo' hi' : Int} {d a a' : Nat → Int} : ∀ n, (∀ j, j < n → decR lo' hi' lot mr mp (a' j) = decR lo hi lot mr mp (a j) ∧ decP lo' hi' lot mr mp (a' j) = decP lo hi lot mr mp (a j)) → mkL lo' hi' lot mr mp d a' n = mkL lo hi lot mr mp d a n
  | 0, _ => rfl
  | n + 1, h => by
    obtain ⟨e1, e2⟩ := h n (by omega)
    simp only [mkL, e1, e2, mkL_congr n (fun j hj => h j (by omega))]
theorem fstI_congr {p q : Nat → Bool} {n : Nat} (h : ∀ j, j < n → p j = q j) : fstI p n = fstI q n := by
  unfold fstI
  have e : (∃ i, i < n ∧ p i = true) = (∃ i, i < n ∧ q i = true) := by
    rw [eq_iff_iff]
    exact ⟨fun ⟨i, hi, hp⟩ => ⟨i, hi, by rw [← h i hi]; exact hp⟩, fun ⟨i, hi, hp⟩ => ⟨i, hi, by rw [h i hi]; exact hp⟩⟩
  have e2 : (List.range n).find? p = (List.range n).find? q := by
    have : ∀ L : List Nat, (∀ j ∈ L, p j = q j) → L.find? p = L.find? q := by
      intro L
      induction L with
      | nil => intro _; rfl
      | cons z L ih =>
        intro hL
        rw [List.find?_cons, List.find?_cons, hL z (List.mem_cons_self ..), ih (fun j hj => hL j (List.mem_cons_of_mem _ hj))]
    exact this _ (fun j hj => h j (List.mem_range.1 hj))
  rw [e2]
  simp only [e]
theorem lcE_ok {lo hi lot mr mp : Int} {n : Nat} {d a : Nat → Int} (hb : bandB lo hi lot mr mp = true) (ha : ∀ j, j < n → inB (a j) (-1000000000000000) 1000000000000000 = true) (hd : ascB n d = true) (hn : n ≤ 1000) : lcE lo hi lot mr mp n d a = 0 := by
  unfold lcE
  rw [if_pos hb, anyB_false (fun j hj => by simp [ha j hj]), if_neg (by simp), if_pos hd, if_neg (by omega)]
theorem posAt_own_n {w : World} {base : Nat} {e : TypeId} {v : Value} {L : List (Int × Int)} {n : Nat} (hl : L.length = n) (h : w.ownsRow base e 2 v n (flat2 L)) : ∃ ao c, v = .slice ao n c ∧ PosAt w ao n c (pd2 L) (pa2 L) ∧ ∀ b off, ao = some ⟨b, off, none⟩ → base ≤ b := by
  subst hl; exact posAt_own h
/-- the law in plain numbers -/
theorem shifts_plain {lo hi lot mr mp x dy : Int} {L : List (Int × Int)} (hb : BandLike lo hi lot mr mp) (hL : PosUp L dy) (hl : L.length ≤ 8) (h0 : 0 ≤ x) (h1 : x ≤ 255) :
    mkP (lo + x) (hi + x) lot mr mp L.length (pd2 L) (fun j => pa2 L j + x) = mkP lo hi lot mr mp L.length (pd2 L) (pa2 L) ∧
    mkD (lo + x) (hi + x) lot mr mp L.length (pd2 L) (fun j => pa2 L j + x) = mkD lo hi lot mr mp L.length (pd2 L) (pa2 L) ∧
    mkE (lo + x) (hi + x) lot mr mp L.length (pd2 L) (fun j => pa2 L j + x) = mkE lo hi lot mr mp L.length (pd2 L) (pa2 L) := by
  obtain ⟨a1, a2, a3, a4, a5, a6, a7, a8, a9, a10⟩ := bandLike_bd hb
  have b1 : bandB lo hi lot mr mp = true := bandB_iff.2 (by omega)
  have b2 : bandB (lo + x) (hi + x) lot mr mp = true := bandB_iff.2 (by omega)
  have ha : ∀ j, j < L.length → inB (pa2 L j) (-1000000000000000) 1000000000000000 = true := fun j hj => inB_iff.2 (by have := hL.1 j hj; omega)
  have ha2 : ∀ j, j < L.length → inB (pa2 L j + x) (-1000000000000000) 1000000000000000 = true := fun j hj => inB_iff.2 (by have := hL.1 j hj; omega)
  have hd := posUp_asc hL (by omega)
  have e1 := lcE_ok (a := pa2 L) b1 ha hd (by omega)
  have e2 := lcE_ok (a := fun j => pa2 L j + x) b2 ha2 hd (by omega)
  have s := fun j hj => bandB_shift b1 b2 (pa2 L j) (ha j hj) (ha2 j hj)
  have f : mkF (lo + x) (hi + x) lot mr mp L.length (fun j => pa2 L j + x) = mkF lo hi lot mr mp L.length (pa2 L) := fstI_congr fun j hj => by rw [(s j hj).2.2]
  have m := mkL_congr (d := pd2 L) (a := pa2 L) (a' := fun j => pa2 L j + x) L.length (fun j hj => ⟨(s j hj).1, (s j hj).2.1⟩)
  have hE : mkE (lo + x) (hi + x) lot mr mp L.length (pd2 L) (fun j => pa2 L j + x) = mkE lo hi lot mr mp L.length (pd2 L) (pa2 L) := by unfold mkE; rw [e1, e2, f]
  refine ⟨?_, ?_, hE⟩
  · unfold mkP; rw [hE, m]
  · unfold mkD; rw [e1, e2, f]

set_option maxHeartbeats 2000000 in
theorem shifts_walk (a0 : Option Addr) (len0 cap0 : Nat) (x : Int) (w : World) (h1 : len0 ≤ cap0) (h2 : cap0 ≤ maxLen) (hz : len0 = 0 ∨ ∃ b off, a0 = some ⟨b, off, none⟩ ∧ ∀ i, i < len0 → ∃ z : Int, w.cell? ⟨b, off + i, none⟩ = some (.int .i64 z)) (hx0 : 0 ≤ x) (hx1 : x ≤ 255) :
    Calls Try.prog 5 #[.slice a0 len0 cap0, .int .u8 x] w fun e w' => e = .returned (.bool true) ∧ Below w.heap.size w w' := by
  obtain ⟨i1, hi', iz0, iz1, iz2⟩ := info_parts infoPos
  go_enter Try.func5, Try.ntmps5
  go_wp2_with fail
  refine (new_any a0 len0 cap0 w h1 h2 hz).mono ?_
  rintro e w1 ⟨sb, rfl, hsb, hS1, hB1⟩
  clear hz
  go_wp2_with fail
  refine (band_any sb _ hS1).mono ?_
  rintro e w2 ⟨lo, hi, lot, mr, mp, hband, rfl, hS2, hG2⟩
  obtain ⟨a1, a2, a3, a4, a5, a6, a7, a8, a9, a10⟩ := bandLike_bd hband
  have hB2 : Below w.heap.size w w2 := hB1.trans (below_of_grown hG2 hsb hB1.size)
  have HBD := Lib.hid hband
  clear hband hB1 hG2
  go_wp2_with fail
  refine (positions_any sb 8 _ hS2 (by omega)).mono ?_
  rintro e w3 ⟨L, dy, ao, c, rfl, hl8, hU, hP, hao, hS3, hG3⟩
  have hB3 : Below w.heap.size w w3 := hB2.trans (below_of_grown hG3 hsb (by have := hB2.size; omega))
  have hpl := Lib.hid (shifts_plain HBD.out hU hl8 hx0 hx1)
  have HU := Lib.hid hU
  have HP := Lib.hid hP
  have z3 := hB3.size
  clear hG3 hB2 hU hP hao hS2 hS3
  go_wp2_with fail
  obtain ⟨W4, hW4⟩ : ∃ W, W = ((w3.alloc (.cells #[.int .i64 lo, .int .i64 hi, .int .i64 lot, .int .i64 mr, .int .i64 mp] 26)).alloc (.cells #[.int .i64 (lo + x), .int .i64 (hi + x), .int .i64 lot, .int .i64 mr, .int .i64 mp] 26)) := ⟨_, rfl⟩
  have zw : W4.heap.size = w3.heap.size + 2 := by rw [hW4]; simp
  have hB4 : Below w.heap.size w W4 := by rw [hW4]; exact (hB3.alloc z3 _).alloc (by simp; omega) _
  have P4 : PosAt W4 ao L.length c (pd2 L) (pa2 L) := by rw [hW4]; exact (HP.out.alloc _).alloc _
  have bx : ∀ i v, #[Value.int .i64 lo, .int .i64 hi, .int .i64 lot, .int .i64 mr, .int .i64 mp][i]? = some v → W4.cell? ⟨w3.heap.size, i, none⟩ = some v := fun i v hv => by
    rw [hW4, World.cell?_alloc_past _ _ _ (by simp), World.cell?_alloc_at _ _ _ _ rfl]; exact hv
  have by' : ∀ i v, #[Value.int .i64 (lo + x), .int .i64 (hi + x), .int .i64 lot, .int .i64 mr, .int .i64 mp][i]? = some v → W4.cell? ⟨w3.heap.size + 1, i, none⟩ = some v := fun i v hv => by
    rw [hW4, World.cell?_alloc_at _ _ _ _ (by simp)]; exact hv
  have HP4 := Lib.hid P4
  have BX := Lib.hid bx
  have BY := Lib.hid by'
  clear P4 bx by' HP
  go_loopw [9, 39] (fun v iv wr => ∃ k : Nat, k ≤ L.length ∧ iv = .int .i64 k ∧ wr.ownsRow W4.heap.size 37 2 v k (flat2 (movedL (pd2 L) (pa2 L) x k)) ∧ Below W4.heap.size W4 wr) (fun _ iv _ => L.length - (intOf iv).toNat)
  case atStart => exact ⟨0, by omega, rfl, World.ownsRow_nil _ _ _ _, by rw [hW4]; exact Below.refl _ _⟩
  case round =>
    obtain ⟨k, hk, rfl, hown, hbr⟩ := hrel
    have zr := hbr.size
    by_cases hlt : k < L.length
    · obtain ⟨b, off, rfl, hc⟩ := (HP4.out.below hbr).at_ (by omega)
      have hck := hc k hlt
      have hbd := HU.out.1 k hlt
      have hsc := Lib.hid (movedL_succ (pd2 L) (pa2 L) x k)
      obtain ⟨vd, hvd⟩ : ∃ x, pd2 L k = x := ⟨_, rfl⟩
      obtain ⟨va, hva⟩ : ∃ x, pa2 L k = x := ⟨_, rfl⟩
      have HX := Lib.hid (And.intro hvd hva)
      rw [hvd, hva] at hck
      obtain ⟨k0, k1⟩ := hck
      obtain ⟨-, -, q3, q4, -⟩ := hbd
      rw [hva] at q3 q4
      clear hc hvd hva
      have hownA := hown.alloc (.cells #[.int .i64 vd, .int .i64 va] 37)
      go_wp2_with (at_builtin; go_loud (refine wpList_append_own _ rfl _ _ 34 rfl W4.heap.size 37 i1 (.agg #[.int .i64 0, .int .i64 0]) 2 16 Try.underlying34 hi' iz0 iz1 iz2 rfl (by decide) _ _ _ rfl (hownA.alloc _) ⟨wr.heap.size + 1, 0, none⟩ 1 1 [.int .i64 vd, .int .i64 (va + x)] rfl rfl (by intro j u hj; have := news2 (wr.alloc (.cells #[.int .i64 vd, .int .i64 va] 37)) (.int .i64 vd) (.int .i64 (va + x)) 37 j u hj; simpa using this) (one2 _ _) (by unfold maxLen; omega) (by omega) (by simp; omega) ?_); intro v' w5 hown' hgrow _)
      have hB5 : Below W4.heap.size W4 w5 := ((hbr.alloc zr _).alloc (by simp; omega) _).grown hgrow (by simp; omega) (fun q hq => (hownA.lt q hq).1)
      go_wp2
      go_roundw
      case rel => exact ⟨k + 1, by omega, by go_num, by rw [hsc.out, flat2_append, HX.out.1, HX.out.2]; exact hown', hB5⟩
      case measure => simp [intOf]; omega
    · have hkn : k = L.length := by omega
      subst hkn
      obtain ⟨ao2, c2, hv, hP2, -⟩ := posAt_own_n (movedL_len (pd2 L) (pa2 L) x L.length) hown
      have HP2 := Lib.hid (hP2.congr (d' := pd2 L) (a' := fun j => pa2 L j + x) (fun j hj => movedL_get (pd2 L) (pa2 L) x _ j hj))
      rw [hv]
      have HPr := Lib.hid (HP4.out.below hbr)
      have c0 := (hbr.cell (p := ⟨w3.heap.size, 0, none⟩) (by simp only; omega)).trans (BX.out 0 _ rfl)
      have c1 := (hbr.cell (p := ⟨w3.heap.size, 1, none⟩) (by simp only; omega)).trans (BX.out 1 _ rfl)
      have c2' := (hbr.cell (p := ⟨w3.heap.size, 2, none⟩) (by simp only; omega)).trans (BX.out 2 _ rfl)
      have c3 := (hbr.cell (p := ⟨w3.heap.size, 3, none⟩) (by simp only; omega)).trans (BX.out 3 _ rfl)
      have c4 := (hbr.cell (p := ⟨w3.heap.size, 4, none⟩) (by simp only; omega)).trans (BX.out 4 _ rfl)
      have e0 := (hbr.cell (p := ⟨w3.heap.size + 1, 0, none⟩) (by simp only; omega)).trans (BY.out 0 _ rfl)
      have e1 := (hbr.cell (p := ⟨w3.heap.size + 1, 1, none⟩) (by simp only; omega)).trans (BY.out 1 _ rfl)
      have e2 := (hbr.cell (p := ⟨w3.heap.size + 1, 2, none⟩) (by simp only; omega)).trans (BY.out 2 _ rfl)
      have e3 := (hbr.cell (p := ⟨w3.heap.size + 1, 3, none⟩) (by simp only; omega)).trans (BY.out 3 _ rfl)
      have e4 := (hbr.cell (p := ⟨w3.heap.size + 1, 4, none⟩) (by simp only; omega)).trans (BY.out 4 _ rfl)
      have hBr : Below w.heap.size w wr := hB4.trans (hbr.mono (by omega))
      have y0 : w3.heap.size < wr.heap.size := by omega
      have y1 : w3.heap.size + 1 < wr.heap.size := by omega
      clear hown hv hP2 hbr hB4
      go_wp2_with fail
      refine (make_any lo hi lot mr mp ao L.length c (pd2 L) (pa2 L) _ (by omega) HPr.out).mono ?_
      rintro e w5 ⟨v5, rfl, hown5, hb5⟩
      obtain ⟨hc5, hf5⟩ := bcell hb5
      have hB5 := below_up' hBr hb5
      have HP5 := Lib.hid (HP2.out.below hb5)
      clear hBr hb5
      go_wp2_with fail
      refine (make_any (lo + x) (hi + x) lot mr mp ao2 L.length c2 (pd2 L) (fun j => pa2 L j + x) _ (by omega) HP5.out).mono ?_
      rw [hpl.out.1, hpl.out.2.1, hpl.out.2.2]
      rintro e w6 ⟨v6, rfl, hown6, hb6⟩
      have hB6 := below_up' hB5 hb6
      have hown5' := ownsRow_below hown5 hb6
      obtain ⟨q5, d5, hv5, hA5⟩ := planAt_own hown5'
      obtain ⟨q6, d6, hv6, hA6⟩ := planAt_own hown6
      subst hv5 hv6
      clear hown5 hown6 hown5' hb6
      obtain ⟨E, hE⟩ : ∃ E, mkE lo hi lot mr mp L.length (pd2 L) (pa2 L) = E := ⟨_, rfl⟩
      obtain ⟨D, hD⟩ : ∃ D, mkD lo hi lot mr mp L.length (pd2 L) (pa2 L) = D := ⟨_, rfl⟩
      obtain ⟨M, hM⟩ : ∃ M, mkP lo hi lot mr mp L.length (pd2 L) (pa2 L) = M := ⟨_, rfl⟩
      have hMl : M.length ≤ 1000000 := by
        rw [← hM]
        unfold mkP
        split
        · have := mkL_le lo hi lot mr mp (pd2 L) (pa2 L) L.length; omega
        · simp
      rw [hM] at hA5 hA6
      rw [hE, hD, hM]
      have HA5 := Lib.hid hA5
      have HA6 := Lib.hid hA6
      clear hE hD hM hA5 hA6
      go_wp2_with (first
        | (go_at_call 16; refine (plans_same _ _ _ _ _ _ _ _ _ hMl HA5.out HA6.out).mono ?_; rintro e w7 ⟨rfl, hb7⟩)
        | (go_at_call 13; refine (sane30_any _).mono ?_; rintro e w8 ⟨rfl, hb8⟩))
      all_goals
        go_ret
        refine ⟨rfl, ?_⟩
        exact below_up' (below_up' hB6 (by assumption)) (by assumption)
end Go.Proofs.Ytmobjmgiilbbdaa
