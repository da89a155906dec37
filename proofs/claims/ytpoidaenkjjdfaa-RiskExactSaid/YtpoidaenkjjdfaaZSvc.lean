/- The structs of the program as Lean structures: their cells, their reading out of a slice. Printed by wip/gen/svc.py. -/
import Derived.Test.YtpoidaenkjjdfaaZRegP
namespace Go.Proofs.Ytpoidaenkjjdfaa
open Go.RowKit
set_option linter.unusedVariables false

structure Svc where
  yr : Int
  i : Int
  p : Int
  d : Int
def encSvc (a : Svc) : List Value := [.int .i64 a.yr, .int .i64 a.i, .int .i64 a.p, .int .i64 a.d]
theorem encSvc_len (a : Svc) : (encSvc a).length = 4 := rfl
theorem oneSvc (a : Svc) : ∀ u ∈ encSvc a, u.oneCell' = true := by
  intro u hu
  simp only [encSvc, List.mem_cons, List.not_mem_nil, or_false] at hu
  rcases hu with rfl | rfl | rfl | rfl <;> rfl
theorem Sl.svc {P : Nat → Prop} {w : World} {ao : Option Addr} {n c k : Nat} {L : List Svc} (h : Sl 4 encSvc P w (.slice ao n c) L) (hk : k < n) :
    ∃ b off vyr vi vp vd, ao = some ⟨b, off, none⟩ ∧ P b ∧ b < w.heap.size ∧ L[k]? = some ⟨vyr, vi, vp, vd⟩ ∧ w.cell? ⟨b, off + k * 4, none⟩ = some (.int .i64 vyr) ∧ w.cell? ⟨b, off + k * 4 + 1, none⟩ = some (.int .i64 vi) ∧ w.cell? ⟨b, off + k * 4 + 2, none⟩ = some (.int .i64 vp) ∧ w.cell? ⟨b, off + k * 4 + 3, none⟩ = some (.int .i64 vd) := by
  obtain ⟨b, off, ⟨vyr, vi, vp, vd⟩, h1, h2, h3, h4, h5⟩ := h.at_ hk
  exact ⟨b, off, vyr, vi, vp, vd, h1, h2, h3, h4, h5 0 _ rfl, h5 1 _ rfl, h5 2 _ rfl, h5 3 _ rfl⟩
theorem infoSvc : (Try.prog.info? 140).map (fun i => (i.zero, i.size, i.bytes)) = some (some (.agg #[.int .i64 0, .int .i64 0, .int .i64 0, .int .i64 0]), 4, 32) := by kernel_rfl
end Go.Proofs.Ytpoidaenkjjdfaa
