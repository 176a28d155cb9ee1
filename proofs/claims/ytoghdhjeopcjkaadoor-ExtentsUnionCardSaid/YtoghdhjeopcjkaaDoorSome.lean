
/- The walk of the laws' Book.some. Conditions: the book lies in memory (BookAt). -/
import Derived.Test.YtoghdhjeopcjkaaDoorBook
namespace Go.Proofs.YtoghdhjeopcjkaaDoor
open Go.RowKit

/-- A list of pages as ints. -/
def nis (R : List Nat) : List Int := R.map fun (x : Nat) => (x : Int)
theorem nis_append (A B : List Nat) : nis (A ++ B) = nis A ++ nis B := by simp [nis]
theorem nis_length (A : List Nat) : (nis A).length = A.length := by simp [nis]
theorem minus_snoc (held : Nat → Bool) (R : List Nat) (p : Nat) : minus held (R ++ [p]) = put (minus held R) p false := by
  funext i
  by_cases e : i = p
  · subst e; simp [minus, put]
  · simp only [minus, put, if_neg e]
    congr 2
    rw [Bool.eq_iff_iff]
    simp [e]

section
variable {w : World} {bb hb : Nat} {S : Sh} {held : Nat → Bool}
end
end Go.Proofs.YtoghdhjeopcjkaaDoor
