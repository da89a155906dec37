/- Small registers of which amounts are open; RiskOlder in plain Lean. -/
import Derived.Test.YtmhglabcnimegaaZRgN
import Derived.Test.YtmhglabcnimegaaZL39P
namespace Go.Proofs.Ytmhglabcnimegaa
open Go.RowKit
set_option linter.unusedVariables false
set_option linter.unusedSimpArgs false
def iss (num s n : Int) : Mv := ⟨num, 0, 1, s, 0, 1, n⟩
theorem iss_ok {secs : List Sec} {hs : List Hold} {num s n : Int} {x : Sec} (hf : findS secs s = some x) (hi : x.is = 0) (hm : 0 ≤ x.ma) (hu : x.un = 1) (h1 : 1 ≤ n) (h2 : n ≤ 1000000) (h3 : outH hs s = 0) : mvE secs hs 0 (iss num s n) = 0 := by
  unfold mvE iss
  simp only [hf]
  unfold mvE1
  rw [if_pos (show inB 0 (max 0 x.is) (if (1 : Int) = 3 then 36000 else x.ma) = true by rw [if_neg (by decide)]; exact inB_iff.2 (by rw [hi]; omega)), if_pos (show 0 < n ∧ n ≤ 1000000000000 ∧ n % x.un = 0 by rw [hu]; omega)]
  have hst : strangeB (⟨num, 0, 1, s, 0, 1, n⟩ : Mv) = false := by unfold strangeB; rfl
  rw [if_neg (by rw [hst]; decide), if_neg (by simp), if_neg (by rw [h3]; simp only; omega)]
theorem iss_step {secs : List Sec} {hs : List Hold} {k s n : Int} {x : Sec} (hf : findS secs s = some x) (hi : x.is = 0) (hm : 0 ≤ x.ma) (hu : x.un = 1) (h1 : 1 ≤ n) (h2 : n ≤ 1000000) (h3 : outH hs s = 0) : stepB secs k 0 hs (iss (k + 1) s n) = true := by
  unfold stepB
  rw [iss_ok hf hi hm hu h1 h2 h3]
  simp [iss, inB]
theorem iss_mvH0 {num s n : Int} (h : 1 ≤ n) : mvH [] (iss num s n) = [⟨s, 1, n⟩] := by
  unfold mvH iss addZ
  simp [addH]
  omega
theorem iss_mvH1 {num s n : Int} {x : Hold} (h : 1 ≤ n) (hx : x.s < s) : mvH [x] (iss num s n) = [x, ⟨s, 1, n⟩] := by
  unfold mvH iss addZ
  have : ltK x s 1 = true := ltK_iff.2 (.inl hx)
  simp [addH, this]
  omega
/-- an issue to holder 1 on day 0 into a right register whose last move is of day 0 -/
theorem rmE_iss {R : Reg} {s n : Int} {x : Sec} (hok : RgOk R) (hl : R.ms.length < 400) (hd : rgDay R = 0) (hf : findS R.secs s = some x) (hi : x.is = 0) (hm : 0 ≤ x.ma) (hu : x.un = 1) (h1 : 1 ≤ n) (h2 : n ≤ 1000000) (h3 : outH R.hs s = 0) :
    rmE R ⟨0, 0, 1, s, 0, 1, n⟩ = 0 ∧ rmR R ⟨0, 0, 1, s, 0, 1, n⟩ = ⟨R.secs, mvH R.hs (iss ((R.ms.length : Int) + 1) s n), R.ms ++ [iss ((R.ms.length : Int) + 1) s n]⟩ := by
  have e : rmE R ⟨0, 0, 1, s, 0, 1, n⟩ = 0 := by
    unfold rmE
    rw [if_pos (chkE_iff.2 hok), if_neg (by omega), hd]
    exact iss_ok hf hi hm hu h1 h2 h3
  refine ⟨e, ?_⟩
  unfold rmR
  rw [if_pos e]
  rfl
/-- one security, one issue -/
theorem one_repl {secs : List Sec} {n : Int} {x : Sec} (hf : findS secs 1 = some x) (hi : x.is = 0) (hm : 0 ≤ x.ma) (hu : x.un = 1) (h1 : 1 ≤ n) (h2 : n ≤ 1000000) : repl secs wantAll [iss 1 1 n] 0 0 [] = (true, 1, 0, [⟨1, 1, n⟩]) := by
  have hs := iss_step (secs := secs) (hs := []) (k := 0) hf hi hm hu h1 h2 rfl
  simp only [Int.zero_add] at hs
  simp only [repl, wantAll, if_true]
  rw [if_pos hs, iss_mvH0 h1]
  rfl
def s1O : Sec := ⟨1, 1, 0, 720, 5000, 12, false⟩
def s2O : Sec := ⟨2, 1, 0, 1440, 5000, 12, false⟩
def sxO (id : Int) : Sec := ⟨id, 1, 0, 720 * id, 5000, 12, false⟩
def oB (n : Int) : Reg := ⟨[s1O], [⟨1, 1, n⟩], [iss 1 1 n]⟩
def oC (n : Int) : Reg := ⟨[s1O, s2O], [⟨1, 1, n⟩], [iss 1 1 n]⟩
def oD (n k : Int) : Reg := ⟨[s1O, s2O], [⟨1, 1, n⟩, ⟨2, 1, k⟩], [iss 1 1 n, iss 2 2 k]⟩
theorem oB_ok {n : Int} (h : 1 ≤ n ∧ n ≤ 5000) : RgOk (oB n) ∧ rgDay (oB n) = 0 := by
  have hr := one_repl (secs := [s1O]) (n := n) (x := s1O) rfl rfl (by decide) rfl h.1 (by omega)
  refine ⟨⟨by simp [oB], by simp [oB], (show secsB 0 [s1O] = true by decide), ?_, ?_⟩, ?_⟩
  · show (repl [s1O] wantAll [iss 1 1 n] 0 0 []).1 = true; rw [hr]
  · show (repl [s1O] wantAll [iss 1 1 n] 0 0 []).2.2.2 = _; rw [hr]; rfl
  · show (repl [s1O] wantAll [iss 1 1 n] 0 0 []).2.2.1 = 0; rw [hr]
theorem oC_ok {n : Int} (h : 1 ≤ n ∧ n ≤ 5000) : RgOk (oC n) ∧ rgDay (oC n) = 0 := by
  have hr := one_repl (secs := [s1O, s2O]) (n := n) (x := s1O) rfl rfl (by decide) rfl h.1 (by omega)
  refine ⟨⟨by simp [oC], by simp [oC], (show secsB 0 [s1O, s2O] = true by decide), ?_, ?_⟩, ?_⟩
  · show (repl [s1O, s2O] wantAll [iss 1 1 n] 0 0 []).1 = true; rw [hr]
  · show (repl [s1O, s2O] wantAll [iss 1 1 n] 0 0 []).2.2.2 = _; rw [hr]; rfl
  · show (repl [s1O, s2O] wantAll [iss 1 1 n] 0 0 []).2.2.1 = 0; rw [hr]
theorem oA_iss {n : Int} (h : 1 ≤ n ∧ n ≤ 5000) : rmE ⟨[s1O], [], []⟩ ⟨0, 0, 1, 1, 0, 1, n⟩ = 0 ∧ rmR ⟨[s1O], [], []⟩ ⟨0, 0, 1, 1, 0, 1, n⟩ = oB n := by
  obtain ⟨h1, h2⟩ := rmE_iss (R := ⟨[s1O], [], []⟩) (s := 1) (n := n) (x := s1O) ⟨by simp, by simp, by decide, rfl, rfl⟩ (by simp) rfl rfl rfl (by decide) rfl h.1 (by omega) rfl
  refine ⟨h1, ?_⟩
  rw [h2]
  show (⟨[s1O], mvH [] (iss ((0 : Nat) + 1) 1 n), [iss ((0 : Nat) + 1) 1 n]⟩ : Reg) = _
  rw [iss_mvH0 h.1]
  rfl
theorem oC_iss {n k : Int} (h : 1 ≤ n ∧ n ≤ 5000) (hk : 1 ≤ k ∧ k ≤ 5000) : rmE (oC n) ⟨0, 0, 1, 2, 0, 1, k⟩ = 0 ∧ rmR (oC n) ⟨0, 0, 1, 2, 0, 1, k⟩ = oD n k := by
  obtain ⟨hok, hd⟩ := oC_ok h
  obtain ⟨h1, h2⟩ := rmE_iss (R := oC n) (s := 2) (n := k) (x := s2O) hok (by simp [oC]) hd rfl rfl (by decide) rfl hk.1 (by omega) (by simp [oC, outH])
  refine ⟨h1, ?_⟩
  rw [h2]
  show (⟨[s1O, s2O], mvH [⟨1, 1, n⟩] (iss ((1 : Nat) + 1) 2 k), [iss 1 1 n] ++ [iss ((1 : Nat) + 1) 2 k]⟩ : Reg) = _
  rw [iss_mvH1 hk.1 (show (1 : Int) < 2 by decide)]
  rfl
theorem oB_add {n : Int} (h : 1 ≤ n ∧ n ≤ 5000) : raE (oB n) s2O = 0 ∧ raR (oB n) s2O = oC n := by
  have e : raE (oB n) s2O = 0 := by
    unfold raE
    rw [if_pos (chkE_iff.2 (oB_ok h).1)]
    rfl
  refine ⟨e, ?_⟩
  unfold raR
  rw [if_pos e]
  rfl
theorem oA_add : raE ⟨[], [], []⟩ s1O = 0 ∧ raR ⟨[], [], []⟩ s1O = ⟨[s1O], [], []⟩ := ⟨by decide, by kernel_rfl⟩
theorem oD_ok {n k : Int} (h : 1 ≤ n ∧ n ≤ 5000) (hk : 1 ≤ k ∧ k ≤ 5000) : RgOk (oD n k) ∧ rgDay (oD n k) = 0 := by
  obtain ⟨h1, h2⟩ := oC_iss h hk
  have := RgOk.move h1 ⟨by simp, by simp⟩
  rw [h2] at this
  exact this
/-- the registers of the loop -/
def OldAt (id : Int) (R : Reg) : Prop := (id = 1 ∧ R = ⟨[], [], []⟩) ∨ (id = 2 ∧ ∃ n, (1 ≤ n ∧ n ≤ 5000) ∧ R = oB n) ∨ (id = 3 ∧ ∃ n k, (1 ≤ n ∧ n ≤ 5000) ∧ (1 ≤ k ∧ k ≤ 5000) ∧ R = oD n k)
theorem old_step {id : Int} {R : Reg} (h : OldAt id R) (h2 : id ≤ 2) : raE R (sxO id) = 0 ∧ ((raR R (sxO id)).secs.length ≤ 2 ∧ (raR R (sxO id)).hs.length ≤ 2 ∧ (raR R (sxO id)).ms.length ≤ 2) ∧ ∀ n, 1 ≤ n ∧ n ≤ 5000 → rmE (raR R (sxO id)) ⟨0, 0, 1, id, 0, 1, n⟩ = 0 ∧ OldAt (id + 1) (rmR (raR R (sxO id)) ⟨0, 0, 1, id, 0, 1, n⟩) := by
  rcases h with ⟨rfl, rfl⟩ | ⟨rfl, n, hn, rfl⟩ | ⟨rfl, _⟩
  · rw [show sxO 1 = s1O from rfl, oA_add.1, oA_add.2]
    refine ⟨rfl, by simp, fun n hn => ?_⟩
    obtain ⟨h3, h4⟩ := oA_iss hn
    rw [h3, h4]
    exact ⟨rfl, .inr (.inl ⟨rfl, n, hn, rfl⟩)⟩
  · rw [show sxO 2 = s2O from rfl, (oB_add hn).1, (oB_add hn).2]
    refine ⟨rfl, by simp [oC], fun k hk => ?_⟩
    obtain ⟨h3, h4⟩ := oC_iss hn hk
    rw [h3, h4]
    exact ⟨rfl, .inr (.inr ⟨rfl, n, k, hn, hk, rfl⟩)⟩
  · omega
theorem old_len {id : Int} {R : Reg} (h : OldAt id R) : R.secs.length ≤ 2 ∧ R.hs.length ≤ 2 ∧ R.ms.length ≤ 2 := by
  rcases h with ⟨rfl, rfl⟩ | ⟨rfl, n, hn, rfl⟩ | ⟨rfl, n, k, _, _, rfl⟩ <;> simp [oB, oD]
theorem old_secs {id : Int} {R : Reg} (h : OldAt id R) (h1 : id ≠ 1) : 0 < R.secs.length := by
  rcases h with ⟨rfl, rfl⟩ | ⟨rfl, n, hn, rfl⟩ | ⟨rfl, n, k, _, _, rfl⟩ <;> simp_all [oB, oD]
/-- behind the redemption -/
def oE (n k : Int) : Reg := ⟨[s1O, s2O], [⟨2, 1, k⟩], [iss 1 1 n, iss 2 2 k, ⟨3, 10, 3, 1, 1, 0, n⟩]⟩
theorem oD_held {n k : Int} (h : 1 ≤ n ∧ n ≤ 5000) (hk : 1 ≤ k ∧ k ≤ 5000) : rgHeld (oD n k) 1 1 = n := by
  unfold rgHeld; rw [if_pos (chkE_iff.2 (oD_ok h hk).1)]; simp [oD, heldH, eqK]
theorem oD_red {n k : Int} (h : 1 ≤ n ∧ n ≤ 5000) (hk : 1 ≤ k ∧ k ≤ 5000) : rmE (oD n k) ⟨0, 10, 3, 1, 1, 0, n⟩ = 0 ∧ rmR (oD n k) ⟨0, 10, 3, 1, 1, 0, n⟩ = oE n k := by
  obtain ⟨hok, hd⟩ := oD_ok h hk
  have e : rmE (oD n k) ⟨0, 10, 3, 1, 1, 0, n⟩ = 0 := by
    unfold rmE
    rw [if_pos (chkE_iff.2 hok), if_neg (by simp [oD]), hd]
    have hf : findS (oD n k).secs (numbered (oD n k) ⟨0, 10, 3, 1, 1, 0, n⟩).s = some s1O := rfl
    unfold mvE
    rw [hf]
    simp only
    unfold mvE1
    have hc : 0 < n ∧ n ≤ 1000000000000 ∧ n % 1 = 0 := by omega
    rw [if_pos (by rfl)]
    rw [if_pos (by exact hc)]
    rw [if_neg (by show ¬ (strangeB _ = true); simp [strangeB, numbered, inB]), if_neg (by simp [numbered, oD, heldH, eqK]), if_neg (by simp [numbered])]
  refine ⟨e, ?_⟩
  unfold rmR
  rw [if_pos e]
  simp [oD, oE, numbered, mvH, addZ, addH, ltK, eqK]
  omega
theorem oE_ok {n k : Int} (h : 1 ≤ n ∧ n ≤ 5000) (hk : 1 ≤ k ∧ k ≤ 5000) : RgOk (oE n k) := by
  obtain ⟨h1, h2⟩ := oD_red h hk
  have := RgOk.move h1 ⟨by simp, by simp⟩
  rw [h2] at this
  exact this.1
theorem oD_term {n k : Int} (h : 1 ≤ n ∧ n ≤ 5000) (hk : 1 ≤ k ∧ k ≤ 5000) : tmE (oD n k) 10 = 0 ∧ tmNum (oD n k) 10 = n * 710 + k * 1430 ∧ tmDen (oD n k) 10 = n + k := by
  have e : tmE (oD n k) 10 = 0 := by unfold tmE; rw [if_pos (chkE_iff.2 (oD_ok h hk).1)]; rfl
  refine ⟨e, ?_, ?_⟩
  · unfold tmNum; rw [if_pos e]
    have e1 : secOf (oD n k) ⟨1, 1, n⟩ = s1O := rfl
    have e2 : secOf (oD n k) ⟨2, 1, k⟩ = s2O := rfl
    show sumF (tmN (oD n k) 10) [⟨1, 1, n⟩, ⟨2, 1, k⟩] = _
    simp only [sumF, tmN, e1, e2]
    rw [if_pos (by decide), if_pos (by decide)]
    show n * (720 - 10) + (k * (1440 - 10) + 0) = _
    omega
  · unfold tmDen; rw [if_pos e]
    have e1 : secOf (oD n k) ⟨1, 1, n⟩ = s1O := rfl
    have e2 : secOf (oD n k) ⟨2, 1, k⟩ = s2O := rfl
    show sumF (tmD (oD n k) 10) [⟨1, 1, n⟩, ⟨2, 1, k⟩] = _
    simp only [sumF, tmD, e1, e2]
    rw [if_pos (by decide), if_pos (by decide)]
    omega
theorem oE_term {n k : Int} (h : 1 ≤ n ∧ n ≤ 5000) (hk : 1 ≤ k ∧ k ≤ 5000) : tmE (oE n k) 10 = 0 ∧ tmNum (oE n k) 10 = k * 1430 ∧ tmDen (oE n k) 10 = k := by
  have e : tmE (oE n k) 10 = 0 := by unfold tmE; rw [if_pos (chkE_iff.2 (oE_ok h hk))]; rfl
  refine ⟨e, ?_, ?_⟩
  · unfold tmNum; rw [if_pos e]
    have e2 : secOf (oE n k) ⟨2, 1, k⟩ = s2O := rfl
    show sumF (tmN (oE n k) 10) [⟨2, 1, k⟩] = _
    simp only [sumF, tmN, e2]
    rw [if_pos (by decide)]
    show k * (1440 - 10) + 0 = _
    omega
  · unfold tmDen; rw [if_pos e]
    have e2 : secOf (oE n k) ⟨2, 1, k⟩ = s2O := rfl
    show sumF (tmD (oE n k) 10) [⟨2, 1, k⟩] = _
    simp only [sumF, tmD, e2]
    rw [if_pos (by decide)]
    omega
theorem older_cmp {n k : Int} (h : 1 ≤ n ∧ n ≤ 5000) (hk : 1 ≤ k ∧ k ≤ 5000) : (n * 710 + k * 1430) * k ≤ k * 1430 * (n + k) ∧ (0 ≤ (n * 710 + k * 1430) * k ∧ (n * 710 + k * 1430) * k ≤ 60000000000) ∧ (0 ≤ k * 1430 * (n + k) ∧ k * 1430 * (n + k) ≤ 100000000000) := by
  have h0 := mul_bd (a := n) (b := k) (by omega) h.2 (by omega) hk.2
  have h1 := mul_bd (a := k) (b := k) (by omega) hk.2 (by omega) hk.2
  have e1 : (n * 710 + k * 1430) * k = 710 * (n * k) + 1430 * (k * k) := by
    rw [Int.add_mul, Int.mul_assoc, Int.mul_comm 710 k, ← Int.mul_assoc, Int.mul_assoc k, Int.mul_comm 1430 k, ← Int.mul_assoc, Int.mul_comm (n * k), Int.mul_comm (k * k)]
  have e2 : k * 1430 * (n + k) = 1430 * (n * k) + 1430 * (k * k) := by
    rw [Int.mul_add, Int.mul_assoc, Int.mul_assoc, Int.mul_comm 1430 n, Int.mul_comm 1430 k, ← Int.mul_assoc, ← Int.mul_assoc, Int.mul_comm k n, Int.mul_comm (n * k), Int.mul_comm (k * k)]
  rw [e1, e2]
  omega
theorem old_zero (m : Nat) (k : Nat) : oldR (List.replicate m 0) k = 0 := by
  unfold oldR
  split
  · rfl
  · rw [List.getElem?_replicate]; split <;> rfl
theorem older_int (R : Reg) (m m' k : Nat) : prjI R 2 (List.replicate m 0) k = prjI R 0 (List.replicate m' 0) (k + 2) := by
  unfold prjI
  rw [old_zero, old_zero, Int.mul_zero, Int.mul_zero, show (2 : Int) + (k : Int) = 0 + ((k + 2 : Nat) : Int) by omega]
end Go.Proofs.Ytmhglabcnimegaa
