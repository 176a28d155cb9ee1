
/- A slice of moves, handed in as an argument: what it reads as. Conditions: it is an argument of the type of a slice of moves. -/
import Derived.Test.YtoghdhjeopcjkaaDoorPlayed
import Derived.ProofKit
import Derived.OpenShut
import Derived.Deep.Slices
import Derived.Deep.Strs
import Derived.Carry
namespace Go.Proofs.YtoghdhjeopcjkaaDoor
open Go.ChangeShapes Go.WideShapes Go.ChangeAt Go.RowKit Go.Deep

theorem i64_wf {x : Int} (h : (Lit.int .i64 x).wf = true) : I64 x := by
  simp [Lit.wf, IntKind.min, IntKind.max, IntKind.signed, IntKind.bits] at h
  exact ⟨by omega, by omega⟩
theorem movesLaid : laidOutB Tryd.prog = true := by kernel_rfl
theorem shape_lt {w : World} {b : Nat} {x : Nat × Nat} (h : w.shape? b = some x) : b < w.heap.size := by
  unfold World.shape? at h
  rcases Nat.lt_or_ge b w.heap.size with hb | hb
  · exact hb
  · rw [Array.getElem?_eq_none hb] at h
    cases h

end Go.Proofs.YtoghdhjeopcjkaaDoor
