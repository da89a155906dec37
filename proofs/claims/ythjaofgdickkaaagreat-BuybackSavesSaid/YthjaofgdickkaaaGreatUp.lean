/- Regions that draw their order, whose operations read and whose callees at most make memory: one walk in the order of the text. -/
import Derived.Test.YthjaofgdickkaaaGreatRow
import Derived.BigQuiet
namespace Go.Proofs.YthjaofgdickkaaaGreat
open Go.RowKit
set_option linter.unusedVariables false

/-- a world in which all that lies in w is as it was -/
def Up (w : World) : Type := {w' : World // Below w.heap.size w w'}
instance {w : World} : Nonempty (Up w) := ⟨⟨w, brefl⟩⟩
theorem wp_region_up {P : Program} {id : Nat} {Q : Exit → Act → World → Prop} {a : Act} {w : World} {l : List Oper} (hm : P.follows .mixedOrders = true) (hB : Region.lexB .any l.toArray = true)
    (h : wpQuiet P l.toArray (fun w' => ∃ x : Up w, w' = x.1) (fun a' => ∀ w', (∃ x : Up w, w' = x.1) → Q .normal a' w') l a) : (Code.region id l.toArray true).wp P Q a w :=
  wp_region_quiet (C := fun w' => ∃ x : Up w, w' = x.1) hm hB ⟨⟨w.drew, bdr brefl⟩, rfl⟩ (by simpa using h)
theorem up_cell {w : World} {p : Addr} {v : Value} (h : w.cell? p = some v) : ∀ x : Up w, x.1.cell? p = some v := fun x => keepB x.2 h
theorem up_frozen {w : World} {b o : Nat} (hb : b < w.heap.size) {f : Bool} (h : w.frozen? ⟨b, o, none⟩ = f) : ∀ x : Up w, x.1.frozen? ⟨b, o, none⟩ = f := fun x => (x.2.frozen (p := ⟨b, o, none⟩) hb).trans h
/-- a contract that leaves a world above the one that it got, in such a region -/
theorem up_call {P : Program} {f : FuncId} {args : Array Value} {w : World} {x : Up w} {v : Value} (h : Calls P f args x.1 fun e w' => e = .returned v ∧ Below x.1.heap.size x.1 w') : Calls P f args x.1 fun e w'' => e = .returned v ∧ ∃ y : Up w, w'' = y.1 :=
  h.mono fun _ w' ⟨he, hb⟩ => ⟨he, ⟨w', bup x.2 hb⟩, rfl⟩
theorem up_same {P : Program} {f : FuncId} {args : Array Value} {w : World} {x : Up w} {v : Value} (h : Calls P f args x.1 fun e w' => e = .returned v ∧ x.1 = w') : Calls P f args x.1 fun e w'' => e = .returned v ∧ ∃ y : Up w, w'' = y.1 :=
  h.mono fun _ w' ⟨he, hb⟩ => ⟨he, x, hb.symm⟩
theorem up_drew {P : Program} {f : FuncId} {args : Array Value} {w : World} {x : Up w} {v : Value} (h : Calls P f args x.1 fun e w' => e = .returned v ∧ ∃ n, w' = x.1.drewN n) : Calls P f args x.1 fun e w'' => e = .returned v ∧ ∃ y : Up w, w'' = y.1 :=
  h.mono fun _ w' ⟨he, n, hb⟩ => ⟨he, ⟨w', by rw [hb]; exact below_drewZ x.2 n⟩, rfl⟩
end Go.Proofs.YthjaofgdickkaaaGreat
