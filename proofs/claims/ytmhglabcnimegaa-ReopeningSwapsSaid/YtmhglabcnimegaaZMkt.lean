/- treasurylaw35.market: the register of two securities. Plain part and walk. -/
import Derived.Test.YtmhglabcnimegaaZSwq
import Derived.Test.YtmhglabcnimegaaZSrcReg
import Derived.Test.YtmhglabcnimegaaZRefN
namespace Go.Proofs.Ytmhglabcnimegaa
open Go.RowKit
set_option linter.unusedVariables false
set_option linter.unusedSimpArgs false
def mkS (i un ra : Int) (ix : Bool) : Sec := ⟨i, un, 0, 1800, ra, 6, ix⟩
def UnRa (un ra : Int) : Prop := un ∈ ([1, 10, 100] : List Int) ∧ ra ∈ ([0, 1000, 2500, 5000] : List Int)
def MkAt (k : Int) (R : Reg) : Prop :=
  (k = 1 ∧ R = ⟨[], [], []⟩) ∨ (k = 2 ∧ ∃ un ra ix, UnRa un ra ∧ R = ⟨[mkS 1 un ra ix], [], []⟩) ∨ (k = 3 ∧ ∃ un ra ix un' ra' ix', UnRa un ra ∧ UnRa un' ra' ∧ R = ⟨[mkS 1 un ra ix, mkS 2 un' ra' ix'], [], []⟩)
theorem mkS_ok {i un ra : Int} {ix : Bool} (hi : 1 ≤ i ∧ i ≤ 3) (h : UnRa un ra) : secOk (mkS i un ra ix) = true := by
  obtain ⟨h1, h2⟩ := h
  simp at h1 h2
  exact secB_iff.2 ⟨hi.1, by simp only [mkS]; omega, by simp only [mkS]; omega, by simp only [mkS]; omega, by simp [mkS], by simp [mkS], by simp [mkS], by simp [mkS], by simp only [mkS]; omega, by simp only [mkS]; omega, .inr (.inr (.inr (.inl ⟨rfl, by simp [mkS]⟩)))⟩
theorem MkAt.bd {k : Int} {R : Reg} (h : MkAt k R) : 1 ≤ k ∧ k ≤ 3 := by
  rcases h with ⟨rfl, -⟩ | ⟨rfl, -⟩ | ⟨rfl, -⟩ <;> omega
theorem MkAt.ms {k : Int} {R : Reg} (h : MkAt k R) : R.ms = [] ∧ R.hs = [] := by
  rcases h with ⟨-, rfl⟩ | ⟨-, _, _, _, -, rfl⟩ | ⟨-, _, _, _, _, _, _, -, -, rfl⟩ <;> exact ⟨rfl, rfl⟩
theorem MkAt.ok {k : Int} {R : Reg} (h : MkAt k R) : RgOk R := by
  rcases h with ⟨-, rfl⟩ | ⟨-, un, ra, ix, h1, rfl⟩ | ⟨-, un, ra, ix, un', ra', ix', h1, h2, rfl⟩
  · exact RgOk.nil
  · exact ⟨by simp, by simp, by simp only [secsB, mkS_ok (show 1 ≤ (1 : Int) ∧ (1 : Int) ≤ 3 by omega) h1, Bool.true_and, Bool.and_true]; simp [mkS], rfl, rfl⟩
  · exact ⟨by simp, by simp, by simp only [secsB, mkS_ok (show 1 ≤ (1 : Int) ∧ (1 : Int) ≤ 3 by omega) h1, mkS_ok (show 1 ≤ (2 : Int) ∧ (2 : Int) ≤ 3 by omega) h2, Bool.true_and, Bool.and_true]; simp [mkS], rfl, rfl⟩
theorem raE_of {R : Reg} {x : Sec} (h : RgOk R) (hx : secOk x = true) (hi : isS R.secs x.id = false) (hl : R.secs.length ≠ 20) : raE R x = 0 := by
  unfold raE
  rw [if_pos (chkE_iff.2 h), if_pos ⟨hx, hi⟩, if_neg hl]
theorem MkAt.add {k un ra : Int} {ix : Bool} {R : Reg} (h : MkAt k R) (hk : k ≤ 2) (hu : UnRa un ra) : raE R (mkS k un ra ix) = 0 ∧ MkAt (k + 1) (raR R (mkS k un ra ix)) := by
  have hok := h.ok
  rcases h with ⟨rfl, rfl⟩ | ⟨rfl, un1, ra1, ix1, h1, rfl⟩ | ⟨rfl, -⟩
  · have hE : raE ⟨[], [], []⟩ (mkS 1 un ra ix) = 0 := raE_of hok (mkS_ok (by omega) hu) rfl (by simp)
    exact ⟨hE, .inr (.inl ⟨rfl, un, ra, ix, hu, raR_ok hE⟩)⟩
  · have hE : raE ⟨[mkS 1 un1 ra1 ix1], [], []⟩ (mkS 2 un ra ix) = 0 := raE_of hok (mkS_ok (by omega) hu) (by simp [isS, posS, mkS]) (by simp)
    refine ⟨hE, .inr (.inr ⟨rfl, un1, ra1, ix1, un, ra, ix, h1, hu, ?_⟩)⟩
    rw [raR_ok hE]
    simp [posS, mkS]
  · omega
theorem MkAt.pos {k : Int} {R : Reg} (h : MkAt k R) (hk : 2 ≤ k) : 0 < R.secs.length := by
  rcases h with ⟨rfl, -⟩ | ⟨-, _, _, _, -, rfl⟩ | ⟨-, _, _, _, _, _, _, -, -, rfl⟩
  · omega
  · simp
  · simp
/-- the register that market hands back -/
structure MkReg (R : Reg) (most : Int) : Prop where
  ok : RgOk R
  rd : rgDay R = 0
  secs : ∃ un ra ix un' ra' ix', UnRa un ra ∧ UnRa un' ra' ∧ R.secs = [mkS 1 un ra ix, mkS 2 un' ra' ix']
  ms : (R.ms.length : Int) ≤ most
  out : ∀ s, outH R.hs s ≤ 9000 * (R.ms.length : Int)
theorem MkAt.reg {R : Reg} (h : MkAt 3 R) : MkReg R 0 := by
  have hok := h.ok
  obtain ⟨hm, hh⟩ := h.ms
  refine ⟨hok, by rw [hok.day, hm]; rfl, ?_, by rw [hm]; simp, fun s => by rw [hh, hm]; simp [outH]⟩
  rcases h with ⟨h, -⟩ | ⟨h, -⟩ | ⟨-, un, ra, ix, un', ra', ix', h1, h2, rfl⟩
  · omega
  · omega
  · exact ⟨un, ra, ix, un', ra', ix', h1, h2, rfl⟩
theorem MkReg.issue {R : Reg} {most s t q : Int} (h : MkReg R most) (hq : 1 ≤ q ∧ q ≤ 9) (hE : rmE R ⟨0, 0, 1, s, 0, t, 1000 * q⟩ = 0) : MkReg (rmR R ⟨0, 0, 1, s, 0, t, 1000 * q⟩) (most + 1) := by
  obtain ⟨h1, h2⟩ := RgOk.move hE (show 1 ≤ (1 : Int) ∧ (1 : Int) ≤ 3 by omega)
  obtain ⟨-, -, hmv⟩ := rmE_zero hE
  refine ⟨h1, h2, ?_, ?_, fun s' => ?_⟩
  · rw [rmR_ok hE]; exact h.secs
  · rw [rmR_ok hE]
    have := h.ms
    simp only [List.length_append, List.length_cons, List.length_nil]; omega
  · rw [rmR_ok hE]
    have h3 := mvH_out (m := numbered R ⟨0, 0, 1, s, 0, t, 1000 * q⟩) (hs := R.hs) (show 1 ≤ (1 : Int) ∧ (1 : Int) ≤ 3 by omega) hmv.st s'
    simp only [List.length_append, List.length_cons, List.length_nil]
    rw [h3]
    have h4 := h.out s'
    have h5 : mvN (numbered R ⟨0, 0, 1, s, 0, t, 1000 * q⟩) s' ≤ 9000 := by
      unfold mvN numbered
      simp only
      repeat' split
      all_goals omega
    omega
theorem MkReg.more {R : Reg} {a b : Int} (h : MkReg R a) (hab : a ≤ b) : MkReg R b := ⟨h.ok, h.rd, h.secs, by have := h.ms; omega, h.out⟩
/-- what market leaves -/
def MktW (w : World) (sb : Nat) (e : Ending) (w' : World) : Prop :=
  ∃ vs vh vm R, e = .returned (.agg #[vs, vh, vm]) ∧ MkReg R 3 ∧ RgIn (fun b => w.heap.size + 2 ≤ b) w' vs vh vm R ∧ SrcOk w' sb ∧ w.grownBy w' (some sb)
end Go.Proofs.Ytmhglabcnimegaa
