/- Auction: bids.Check at valid bids whose keys are their own, bids.Sort. -/
import Derived.Test.YtenbbmmbpjjjpaaZAucA
import Derived.Test.YtenbbmmbpjjjpaaZFnBid
import Derived.Test.YtenbbmmbpjjjpaaZCloneA
import Derived.Test.YtenbbmmbpjjjpaaZStBidG
import Derived.Maps.OwnOps
import Derived.Maps.Views
import Derived.WideKeyPair
namespace Go.Proofs.Ytenbbmmbpjjjpaa
open Go.RowKit Go.Maps Go.WideMaps
set_option linter.unusedVariables false
set_option linter.unusedSimpArgs false
theorem arrB : ArrKey Try.prog 54 3 2 := ⟨Try.underlying54, by kernel_rfl, by kernel_rfl, by kernel_rfl⟩
theorem lawB : Keyed Try.prog 54 := Keyed.of_law arrB.law
def klB (a b : Int) : Lit := .string (keyBytes [.int .i64 a, .int .i64 b])
theorem keyB {a b : Int} (ha : 1 ≤ a ∧ a ≤ 40) (hb : 1 ≤ b ∧ b ≤ 40) : keyOf Try.prog 54 (.agg #[.int .i64 a, .int .i64 b]) = some (klB a b) :=
  keyOf_pair arrB Try.underlying3 ⟨Try.prog.types.size - 1, by kernel_rfl⟩ (WalkArith.wf_i64 (by omega)) (WalkArith.wf_i64 (by omega))
theorem klB_inj {a b c d : Int} (ha : 1 ≤ a ∧ a ≤ 40) (hb : 1 ≤ b ∧ b ≤ 40) (hc : 1 ≤ c ∧ c ≤ 40) (hd : 1 ≤ d ∧ d ≤ 40) (h : klB a b = klB c d) : a = c ∧ b = d := by
  have h1 := keyB ha hb
  have h2 := keyB hc hd
  rw [h] at h1
  have := arrB.law.inj h1 h2
  simpa using this
theorem zeroBl (w : World) : (zeroValue 4).run Try.prog w = .ok (.bool false) w := by kernel_rfl
theorem plainBool_inv {P : Program} {e : TypeId} (he : P.underlying e = some .bool) {v : Value} {z : DataW Unit × List MemPlace} (h : plainElem P e v = some z) : ∃ x, v = .bool x ∧ z = (.lit (.bool x), []) := by
  unfold plainElem at h
  rw [he] at h
  cases v <;> simp at h
  exact ⟨_, rfl, h.symm⟩
theorem plainFalse {v : Value} {d : DataW Unit} {ps : List MemPlace} (h : plainElem Try.prog 4 v = some (d, ps)) (hd : d = .lit (.bool false)) : v = .bool false := by
  obtain ⟨x, rfl, hz⟩ := plainBool_inv Try.underlying4 h
  simp only [Prod.mk.injEq] at hz
  rw [hz.1] at hd
  cases x
  · rfl
  · cases hd
/-- the bids' keys are their own -/
def KeysB (L : List Bid) : Prop := L.Pairwise fun x y => ¬ (x.bd = y.bd ∧ x.num = y.num)
set_option maxHeartbeats 4000000 in
set_option maxRecDepth 100000 in
theorem bcheck_any (P : Nat → Prop) (v : Value) (L : List Bid) (w : World) (hS : Sl 5 encBid P w v L) (hok : ∀ x ∈ L, BidOk x) (hd : KeysB L) (hlen : L.length ≤ 60) :
    Calls Try.prog 31 #[v] w fun e w' => e = .returned (.int .i64 0) ∧ Below w.heap.size w w' := by
  obtain ⟨ao, n, c, rfl, hn, -, -⟩ := hS.shape
  have hn60 : n ≤ 60 := by omega
  have eg : ∀ args w, (callFunc 49 args).run Try.prog w = .ok (.enter 49 args) w := enters_of Try.func49 (by kernel_rfl) rfl
  have KA := cnfBid_any P 49 #[] (fun _ => false) BidOk (.slice ao n c) L w eg (fun W _ x hx => bcheck1_any x W hx) hok hS (by omega)
  rw [show L.any (fun _ => false) = false by simp] at KA
  have HK := Lib.hid KA
  have HS := Lib.hid hS
  have HOK := Lib.hid hok
  have HD := Lib.hid hd
  have HN := Lib.hid hn
  have hmm := @run_makeMap Try.prog
  clear KA hS hok hd hn hlen eg
  go_enter Try.func31, Try.ntmps31
  go_wp2_with fail
  refine HK.out.mono ?_
  rintro e w1 ⟨rfl, hb1⟩
  have HB1 := Lib.hid hb1
  clear hb1
  go_wp2
  go_loopw [17] (fun iv wr => ∃ (k : Nat) (D : DataW Unit), k ≤ n ∧ iv = .int .i64 k ∧ wr.ownsMap Try.prog 54 (plainElem Try.prog 4) w1.heap.size k D ∧ (∀ x ∈ L.drop k, D.atKey (klB x.bd x.num) (.lit (.bool false)) = .lit (.bool false)) ∧ Below w1.heap.size w1 wr) (fun iv _ => n - (intOf iv).toNat)
  case atStart => exact ⟨0, .map [], by omega, rfl, World.ownsMap_made _ _ _ _, fun x _ => rfl, bal brefl _⟩
  case round =>
    obtain ⟨k, D, hk, rfl, hown, hat, hbr⟩ := hrel
    have zr := hbr.size
    by_cases hlt : k < n
    · obtain ⟨bb, off, bd, num, p, a, f, rfl, -, hbb, hx, k0, k1, k2, k3, k4⟩ := (HS.out.below (bup HB1.out hbr)).bid hlt
      have hkz : (k : Int) < (n : Int) := by omega
      have hk60 : k ≤ 60 := by omega
      have hox := HOK.out _ (List.mem_of_getElem? hx)
      have hbd : 1 ≤ bd ∧ bd ≤ 40 := ⟨hox.b0, hox.b1⟩
      have hnu : 1 ≤ num ∧ num ≤ 40 := ⟨hox.n0, hox.n1⟩
      have hdr : L.drop k = ⟨bd, num, p, a, f⟩ :: L.drop (k + 1) := drop_cons hx
      have hat0 := hat ⟨bd, num, p, a, f⟩ (by rw [hdr]; simp)
      have hpw : ∀ y ∈ L.drop (k + 1), ¬ (bd = y.bd ∧ num = y.num) := by
        have h1 : KeysB (L.drop k) := List.Pairwise.sublist (List.drop_sublist _ _) HD.out
        rw [hdr] at h1
        exact (List.pairwise_cons.1 h1).1
      have hat1 : ∀ y ∈ L.drop (k + 1), (D.put (klB bd num) (.lit (.bool true))).atKey (klB y.bd y.num) (.lit (.bool false)) = .lit (.bool false) := by
        intro y hy
        have hoy := HOK.out y (List.mem_of_mem_drop hy)
        rw [atKey_put_other (fun h => hpw y hy (by
          have := klB_inj ⟨hoy.b0, hoy.b1⟩ ⟨hoy.n0, hoy.n1⟩ hbd hnu h
          exact ⟨this.1.symm, this.2.symm⟩))]
        exact hat y (by rw [hdr]; exact List.mem_cons_of_mem _ hy)
      have HAT := Lib.hid hat1
      obtain ⟨W2, hW2⟩ : ∃ W, W = (wr.alloc (.cells #[.int .i64 bd, .int .i64 num, .int .i64 p, .int .i64 a, .bool f] 37 (0, 0))).alloc (.cells #[.int .i64 bd, .int .i64 num] 54 (0, 0)) := ⟨_, rfl⟩
      have hbW : Below wr.heap.size wr W2 := by rw [hW2]; exact bal (bal brefl _) _
      have hown2 : W2.ownsMap Try.prog 54 (plainElem Try.prog 4) w1.heap.size k D := by rw [hW2]; exact (hown.alloc _).alloc _
      obtain ⟨v, ps, hrun, hv⟩ := hown2.lookup lawB Try.underlying81 (zeroBl _) (plainElem_bool Try.underlying4 false) (keyB hbd hnu)
      have hvf := plainFalse hv hat0
      subst hvf
      have y0 : W2.cell? ⟨wr.heap.size + 1, 0, none⟩ = some (.int .i64 bd) := by rw [hW2]; exact World.cell?_alloc_at _ _ _ _ (by simp)
      have y1 : W2.cell? ⟨wr.heap.size + 1, 1, none⟩ = some (.int .i64 num) := by rw [hW2]; exact World.cell?_alloc_at _ _ _ _ (by simp)
      have HO2 := Lib.hid hown2
      have HBR := Lib.hid (hbr.trans (hbW.mono zr))
      have HKY := Lib.hid (keyB hbd hnu)
      have hwz : w1.heap.size < W2.heap.size := hown2.lt
      have HX := Lib.hid hW2
      clear hx hat hbr hox hdr hat0 hpw hat1 hbW hown2 hown hv hbd hnu hW2
      go_upto_region 10 with fail
      rw [← HX.out]
      go_wp2_with (at_mapUpdate; refine wpList_mapUpdate_own _ rfl _ _ _ 81 rfl 54 4 lawB Try.underlying81 _ w1.heap.size k D rfl HO2.out (by unfold maxLen; omega) _ _ (klB bd num) rfl rfl HKY.out (.lit (.bool true)) [] (plainElem_bool Try.underlying4 true) ?_; intro w5 hown5 hgrow5)
      go_roundw
      case rel => exact ⟨k + 1, _, by omega, by go_num, hown5, HAT.out, HBR.out.grown hgrow5 (by omega) (fun q hq => by cases hq; exact Nat.le_refl _)⟩
      case measure => simp [intOf]; omega
    · clear hown hat
      go_wp2
      go_ret
      exact ⟨rfl, bup HB1.out hbr⟩
/-- the bids in order -/
def srB (L : List Bid) : List Bid := srt (ltz cmpB) L
theorem bsort_any (P : Nat → Prop) (v : Value) (L : List Bid) (w : World) (hS : Sl 5 encBid P w v L) (hlen : L.length ≤ 1000000) :
    Calls Try.prog 32 #[v] w (Copied 5 encBid 37 (srB L) w) := by
  have eg : ∀ args w, (callFunc 53 args).run Try.prog w = .ok (.enter 53 args) w := enters_of Try.func53 (by kernel_rfl) rfl
  have KC := Lib.hid (cloneBid_any P v L w hS hlen)
  have KS := Lib.hid (fun (U : World) (u : Value) (hb : w.heap.size ≤ U.heap.size) (ho : U.ownsRow w.heap.size 37 5 u L.length (flatE encBid L)) =>
    sortBid_own 53 #[] cmpB (fun _ => True) w.heap.size u L U eg (fun W _ x y _ _ => bcompare_any x.bd x.num x.p x.a y.bd y.num y.p y.a x.f y.f W) cmpB_wk (fun _ _ => trivial) hb ho (by omega))
  clear hS eg
  go_enter Try.func32, Try.ntmps32
  go_wp2_with fail
  refine KC.out.mono ?_
  rintro e w1 ⟨v1, rfl, ho1, hb1⟩
  have HB1 := Lib.hid hb1
  have HO1 := Lib.hid ho1
  have z1 := hb1.size
  clear ho1 hb1
  go_wp2_with fail
  refine (KS.out _ _ z1 HO1.out).mono ?_
  rintro e w2 ⟨rfl, ho2, hb2⟩
  go_wp2
  go_ret
  exact ⟨_, rfl, by unfold srB; rw [srt_length]; exact ho2, HB1.out.trans hb2⟩
end Go.Proofs.Ytenbbmmbpjjjpaa
