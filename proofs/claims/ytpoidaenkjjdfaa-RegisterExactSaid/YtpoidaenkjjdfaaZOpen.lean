/- Raw arguments that are structs, slices of structs, or a register: opened to lists. Printed by wip/gen/open.py. -/
import Derived.Test.YtpoidaenkjjdfaaZRegP
import Derived.Test.YtpoidaenkjjdfaaZRegJ
import Derived.ChangeSame
import Derived.ChangeArms
import Derived.Deep.Slices
import Derived.Deep.Fields
namespace Go.Proofs.Ytpoidaenkjjdfaa
open Go.RowKit Go.ChangeShapes Go.WideShapes Go.Deep
set_option linter.unusedVariables false
section
variable {H : Type} {enc : TypeId × Value → H} {P : Program} {w : World} {base : Nat} {spare : Nat → Bool} {held : Bool}
/-- a struct of one-cell fields: each field's own reading -/
theorem trod_fields {t : TypeId} {fs : Array Field} {fuel : Nat} {cs : List Value} {x : DataW H × List MemPlace} (ht : P.underlying t = some (.struct fs)) (hone : oneCellFields P fs = true) (hC : P.cellsOf t = fs.size)
    (h : DataW.trod enc P w base spare held fuel t cs = some x) : cs.length = fs.size ∧ ∃ n, ∀ (i : Nat) (f : Field), fs[i]? = some f → ∃ c y, cs[i]? = some c ∧ DataW.trod enc P w base spare held n f.type [c] = some y := by
  obtain ⟨xs, n, -, -, hlen, hxl, hf⟩ := DataW.trod_struct ht h
  rw [hC] at hlen
  refine ⟨hlen, n, fun i f hi => ?_⟩
  obtain ⟨ho, hk⟩ := hone_of hone i f hi
  have hlt : i < fs.size := (Array.getElem?_eq_some_iff.1 hi).1
  have h1 := hf i f hi
  rw [ho, hk, List.drop_eq_getElem_cons (by omega), List.take_succ_cons, List.take_zero, List.getElem?_eq_getElem (by omega)] at h1
  exact ⟨_, _, List.getElem?_eq_getElem (by omega), h1⟩
/-- a slice of elements that can be read -/
theorem open_list {α : Type} {z : Nat} {encA : α → List Value} {t e : TypeId} {fuel : Nat} {v : Value} {x : DataW H × List MemPlace} (ht : P.underlying t = some (.slice e)) (hC : P.cellsOf e = z) (hz : 0 < z) (hl : ∀ a, (encA a).length = z)
    (hel : ∀ n cs y, DataW.trod enc P w base spare held n e cs = some y → ∃ a : α, encA a = cs)
    (h : DataW.trod enc P w base spare held fuel t [v] = some x) : ∃ L, Sl z encA (fun _ => True) w v L ∧ (v = .slice none 0 0 ∨ ∃ b off sp n c, v = .slice (some ⟨b, off, sp⟩) n c) := by
  rcases open_slice ht h with ⟨hcs, -⟩ | ⟨a, len, cap, m, n, D, Pl, hcs, hb, hlc, hm, hmm, -, hi⟩
  · obtain rfl : v = .slice none 0 0 := by simpa using hcs
    exact ⟨[], Sl.nil, .inl rfl⟩
  · obtain rfl : v = .slice (some a) len cap := by simpa using hcs
    have hlm : len ≤ m := by rw [hmm]; split <;> omega
    have key : ∀ i, i < len → ∃ b : α, w.cells? base (a.add (i * z)) z = some (encA b) := fun i hlt => by
      obtain ⟨cs', hc, ht'⟩ := hi i (by omega)
      rw [hC] at hc
      obtain ⟨b, rfl⟩ := hel _ _ _ ht'
      exact ⟨b, hc⟩
    have key2 : ∀ i : Fin len, ∃ b : α, w.cells? base (a.add (i.1 * z)) z = some (encA b) := fun i => key i.1 i.2
    refine ⟨List.ofFn fun i => Classical.choose (key2 i), ⟨some a, len, cap, rfl, by simp, hlc, hm, ?_⟩, .inr ⟨_, _, _, _, _, rfl⟩⟩
    by_cases h0 : len = 0
    · exact .inl h0
    · obtain ⟨b, off, spot⟩ := a
      have hcell : ∀ j b', (List.ofFn fun i => Classical.choose (key2 i))[j]? = some b' → ∀ i u, (encA b')[i]? = some u → w.cell? (((⟨b, off, spot⟩ : Addr).add (j * z)).add i) = some u := fun j b' hj i u hu => by
        have hj' : j < len := by have := (List.getElem?_eq_some_iff.1 hj).1; simpa using this
        have e : Classical.choose (key2 ⟨j, hj'⟩) = b' := by
          rw [List.getElem?_ofFn, dif_pos hj'] at hj
          exact Option.some.inj hj
        have hc := Classical.choose_spec (key2 ⟨j, hj'⟩)
        rw [e] at hc
        obtain ⟨-, -, hat⟩ := World.cells?_some hc
        have hlt : i < z := by have := (List.getElem?_eq_some_iff.1 hu).1; rw [hl] at this; exact this
        exact (hat i hlt).trans hu
      obtain ⟨b0, hb0⟩ : ∃ b0, (List.ofFn fun i => Classical.choose (key2 i))[0]? = some b0 := ⟨_, by rw [List.getElem?_ofFn, dif_pos (by omega)]⟩
      obtain ⟨u0, hu0⟩ : ∃ u0, (encA b0)[0]? = some u0 := ⟨_, List.getElem?_eq_getElem (by rw [hl]; omega)⟩
      have hc0 := hcell 0 b0 hb0 0 u0 hu0
      have hspot : spot = none := by simpa [Addr.add] using World.cell?_spot hc0
      subst hspot
      have hblt := World.block_lt_of_cell? w _ hc0
      refine .inr ⟨b, off, rfl, trivial, by simpa [Addr.add] using hblt, fun j b' hj i u hu => ?_⟩
      have hc := hcell j b' hj i u hu
      have e : (((⟨b, off, none⟩ : Addr).add (j * z)).add i) = ⟨b, off + j * z + i, none⟩ := by
        unfold Addr.add
        repeat' split
        all_goals simp_all
      rw [e] at hc
      exact hc
end
section
variable {H : Type} {enc : TypeId × Value → H} {w : World} {base : Nat} {spare : Nat → Bool} {held : Bool}
theorem elSec (n : Nat) (cs : List Value) (y : DataW H × List MemPlace) (h : DataW.trod enc Try.prog w base spare held n 29 cs = some y) : ∃ a : Sec, encSec a = cs := by
  obtain ⟨hlen, n', hf⟩ := trod_fields Try.underlying29 (by kernel_rfl) (by kernel_rfl) h
  match cs, hlen with
  | [c0, c1, c2, c3, c4, c5, c6], _ =>
    obtain ⟨_, y0, e0, h0⟩ := hf 0 _ rfl
    obtain rfl := Option.some.inj e0
    obtain ⟨m0, q0, -, -⟩ := DataW.trod_int Try.underlying3 h0
    obtain rfl := (List.cons.inj q0).1
    obtain ⟨_, y1, e1, h1⟩ := hf 1 _ rfl
    obtain rfl := Option.some.inj e1
    obtain ⟨m1, q1, -, -⟩ := DataW.trod_int Try.underlying3 h1
    obtain rfl := (List.cons.inj q1).1
    obtain ⟨_, y2, e2, h2⟩ := hf 2 _ rfl
    obtain rfl := Option.some.inj e2
    obtain ⟨m2, q2, -, -⟩ := DataW.trod_int Try.underlying3 h2
    obtain rfl := (List.cons.inj q2).1
    obtain ⟨_, y3, e3, h3⟩ := hf 3 _ rfl
    obtain rfl := Option.some.inj e3
    obtain ⟨m3, q3, -, -⟩ := DataW.trod_int Try.underlying3 h3
    obtain rfl := (List.cons.inj q3).1
    obtain ⟨_, y4, e4, h4⟩ := hf 4 _ rfl
    obtain rfl := Option.some.inj e4
    obtain ⟨m4, q4, -, -⟩ := DataW.trod_int Try.underlying3 h4
    obtain rfl := (List.cons.inj q4).1
    obtain ⟨_, y5, e5, h5⟩ := hf 5 _ rfl
    obtain rfl := Option.some.inj e5
    obtain ⟨m5, q5, -, -⟩ := DataW.trod_int Try.underlying3 h5
    obtain rfl := (List.cons.inj q5).1
    obtain ⟨_, y6, e6, h6⟩ := hf 6 _ rfl
    obtain rfl := Option.some.inj e6
    obtain ⟨m6, q6, -⟩ := DataW.trod_bool Try.underlying4 h6
    obtain rfl := (List.cons.inj q6).1
    exact ⟨⟨m0, m1, m2, m3, m4, m5, m6⟩, rfl⟩
theorem elHold (n : Nat) (cs : List Value) (y : DataW H × List MemPlace) (h : DataW.trod enc Try.prog w base spare held n 98 cs = some y) : ∃ a : Hold, encHold a = cs := by
  obtain ⟨hlen, n', hf⟩ := trod_fields Try.underlying98 (by kernel_rfl) (by kernel_rfl) h
  match cs, hlen with
  | [c0, c1, c2], _ =>
    obtain ⟨_, y0, e0, h0⟩ := hf 0 _ rfl
    obtain rfl := Option.some.inj e0
    obtain ⟨m0, q0, -, -⟩ := DataW.trod_int Try.underlying3 h0
    obtain rfl := (List.cons.inj q0).1
    obtain ⟨_, y1, e1, h1⟩ := hf 1 _ rfl
    obtain rfl := Option.some.inj e1
    obtain ⟨m1, q1, -, -⟩ := DataW.trod_int Try.underlying3 h1
    obtain rfl := (List.cons.inj q1).1
    obtain ⟨_, y2, e2, h2⟩ := hf 2 _ rfl
    obtain rfl := Option.some.inj e2
    obtain ⟨m2, q2, -, -⟩ := DataW.trod_int Try.underlying3 h2
    obtain rfl := (List.cons.inj q2).1
    exact ⟨⟨m0, m1, m2⟩, rfl⟩
theorem elMv (n : Nat) (cs : List Value) (y : DataW H × List MemPlace) (h : DataW.trod enc Try.prog w base spare held n 110 cs = some y) : ∃ a : Mv, encMv a = cs := by
  obtain ⟨hlen, n', hf⟩ := trod_fields Try.underlying110 (by kernel_rfl) (by kernel_rfl) h
  match cs, hlen with
  | [c0, c1, c2, c3, c4, c5, c6], _ =>
    obtain ⟨_, y0, e0, h0⟩ := hf 0 _ rfl
    obtain rfl := Option.some.inj e0
    obtain ⟨m0, q0, -, -⟩ := DataW.trod_int Try.underlying3 h0
    obtain rfl := (List.cons.inj q0).1
    obtain ⟨_, y1, e1, h1⟩ := hf 1 _ rfl
    obtain rfl := Option.some.inj e1
    obtain ⟨m1, q1, -, -⟩ := DataW.trod_int Try.underlying3 h1
    obtain rfl := (List.cons.inj q1).1
    obtain ⟨_, y2, e2, h2⟩ := hf 2 _ rfl
    obtain rfl := Option.some.inj e2
    obtain ⟨m2, q2, -, -⟩ := DataW.trod_int Try.underlying3 h2
    obtain rfl := (List.cons.inj q2).1
    obtain ⟨_, y3, e3, h3⟩ := hf 3 _ rfl
    obtain rfl := Option.some.inj e3
    obtain ⟨m3, q3, -, -⟩ := DataW.trod_int Try.underlying3 h3
    obtain rfl := (List.cons.inj q3).1
    obtain ⟨_, y4, e4, h4⟩ := hf 4 _ rfl
    obtain rfl := Option.some.inj e4
    obtain ⟨m4, q4, -, -⟩ := DataW.trod_int Try.underlying3 h4
    obtain rfl := (List.cons.inj q4).1
    obtain ⟨_, y5, e5, h5⟩ := hf 5 _ rfl
    obtain rfl := Option.some.inj e5
    obtain ⟨m5, q5, -, -⟩ := DataW.trod_int Try.underlying3 h5
    obtain rfl := (List.cons.inj q5).1
    obtain ⟨_, y6, e6, h6⟩ := hf 6 _ rfl
    obtain rfl := Option.some.inj e6
    obtain ⟨m6, q6, -, -⟩ := DataW.trod_int Try.underlying3 h6
    obtain rfl := (List.cons.inj q6).1
    exact ⟨⟨m0, m1, m2, m3, m4, m5, m6⟩, rfl⟩
set_option maxRecDepth 100000 in
theorem open_sec {r : Reach} {b0 : Nat} {v : Value} {d : DataW H} {p : List MemPlace} (hv : Value.okWide Try.prog w r b0 29 v) (h : DataW.Trod enc Try.prog w base spare held 29 v d p) :
    ∃ id un is ma ra ev ix, v = .agg #[.int .i64 id, .int .i64 un, .int .i64 is, .int .i64 ma, .int .i64 ra, .int .i64 ev, .bool ix] := by
  obtain ⟨cs, rfl, hsz⟩ := okWide_struct Try.underlying29 hv
  obtain ⟨fuel, hf⟩ := h
  obtain ⟨a, ha⟩ := elSec _ _ _ hf
  obtain ⟨l⟩ := cs
  have e : encSec a = l := by simpa [Value.cells] using ha
  exact ⟨a.id, a.un, a.is, a.ma, a.ra, a.ev, a.ix, by rw [← e]; rfl⟩
set_option maxRecDepth 100000 in
theorem open_reg {r : Reach} {b0 : Nat} {v : Value} {d : DataW H} {p : List MemPlace} (hv : Value.okWide Try.prog w r b0 27 v) (h : DataW.Trod enc Try.prog w base spare held 27 v d p) :
    ∃ vs vh vm R, v = .agg #[vs, vh, vm] ∧ RgIn (fun _ => True) w vs vh vm R ∧ (vs = .slice none 0 0 ∨ ∃ b off sp n c, vs = .slice (some ⟨b, off, sp⟩) n c) := by
  obtain ⟨cs, rfl, hsz⟩ := okWide_struct Try.underlying27 hv
  obtain ⟨fuel, hf⟩ := h
  obtain ⟨hlen, n', hf⟩ := trod_fields Try.underlying27 (by kernel_rfl) (by kernel_rfl) hf
  obtain ⟨l⟩ := cs
  have hlen' : l.length = 3 := by simpa [Value.cells] using hlen
  match l, hlen' with
  | [c0, c1, c2], _ =>
    obtain ⟨_, y0, e0, h0⟩ := hf 0 _ rfl
    obtain ⟨_, y1, e1, h1⟩ := hf 1 _ rfl
    obtain ⟨_, y2, e2, h2⟩ := hf 2 _ rfl
    simp only [Value.cells] at e0 e1 e2
    obtain rfl := Option.some.inj e0
    obtain rfl := Option.some.inj e1
    obtain rfl := Option.some.inj e2
    obtain ⟨S, hS, hnS⟩ := open_list (z := 7) Try.underlying23 (by kernel_rfl) (by decide) encSec_len (fun _ _ _ => elSec _ _ _) h0
    obtain ⟨L, hL, -⟩ := open_list (z := 3) Try.underlying24 (by kernel_rfl) (by decide) encHold_len (fun _ _ _ => elHold _ _ _) h1
    obtain ⟨M, hM, -⟩ := open_list (z := 7) Try.underlying25 (by kernel_rfl) (by decide) encMv_len (fun _ _ _ => elMv _ _ _) h2
    exact ⟨c0, c1, c2, ⟨S, L, M⟩, rfl, ⟨hS, hL, hM⟩, hnS⟩
end
end Go.Proofs.Ytpoidaenkjjdfaa
