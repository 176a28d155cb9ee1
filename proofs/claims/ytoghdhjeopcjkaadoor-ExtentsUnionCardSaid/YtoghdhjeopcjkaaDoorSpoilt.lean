
/- The walk of the laws' spoilt. Conditions: the lists are read as told. -/
import Derived.Test.YtoghdhjeopcjkaaDoorSpoil
namespace Go.Proofs.YtoghdhjeopcjkaaDoor
open Go.RowKit

theorem blk3 {w : World} {b : Nat} {x0 x1 x2 : Value} {T : TypeId} {fr : Nat × Nat} (h : w.heap[b]? = some (.cells #[x0, x1, x2] T fr)) :
    w.cell? ⟨b, 0, none⟩ = some x0 ∧ w.cell? ⟨b, 1, none⟩ = some x1 ∧ w.cell? ⟨b, 2, none⟩ = some x2 := by
  simp [World.cell?, h]
theorem fr_of {l : Sps} {i : Nat} {f c : Int} (h : l[i]? = some (f, c)) : fr l i = f ∧ ct l i = c := by simp [fr, ct, h]
end Go.Proofs.YtoghdhjeopcjkaaDoor
