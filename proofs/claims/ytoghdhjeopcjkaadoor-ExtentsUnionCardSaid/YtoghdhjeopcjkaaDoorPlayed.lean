
/- The walk of the laws' played: moves on a pool with a book. Conditions: pool and book lie in memory and say the same (Both). -/
import Derived.Test.YtoghdhjeopcjkaaDoorPlayP
import Derived.Test.YtoghdhjeopcjkaaDoorShape
import Derived.Test.YtoghdhjeopcjkaaDoorTake
import Derived.Deep.RegionHeld3
namespace Go.Proofs.YtoghdhjeopcjkaaDoor
open Go.RowKit

/-- A move: back?, N, M. -/
abbrev Mv := Bool × Int × Int
def mvb (l : List Mv) (i : Nat) : Bool := (l[i]?.getD (false, 0, 0)).1
def mvn (l : List Mv) (i : Nat) : Int := (l[i]?.getD (false, 0, 0)).2.1
def mvm (l : List Mv) (i : Nat) : Int := (l[i]?.getD (false, 0, 0)).2.2
/-- A slice of moves that is read. -/
def RdM (w : World) (v : Value) (l : List Mv) : Prop :=
  ∃ a cap, v = .slice a l.length cap ∧ (l = [] ∨ ∃ g o, a = some ⟨g, o, none⟩ ∧ ∀ i, i < l.length → w.cell? ⟨g, o + i * 3, none⟩ = some (.bool (mvb l i)) ∧ w.cell? ⟨g, o + i * 3 + 1, none⟩ = some (.int .i64 (mvn l i)) ∧ w.cell? ⟨g, o + i * 3 + 2, none⟩ = some (.int .i64 (mvm l i)) ∧ I64 (mvn l i) ∧ I64 (mvm l i))
theorem RdM.keep {S : List Nat} {w w' : World} {v : Value} {l : List Mv} (h : RdM w v l) (k : Kp S w w') (hS : ∀ b, v.ownBlock = some b → b ∉ S) : RdM w' v l := by
  obtain ⟨a, cap, rfl, h | ⟨g, o, rfl, h⟩⟩ := h
  · exact ⟨_, _, rfl, .inl h⟩
  · exact ⟨_, _, rfl, .inr ⟨g, o, rfl, fun i hi => ⟨k.cell (h i hi).1 (hS _ rfl), k.cell (h i hi).2.1 (hS _ rfl), k.cell (h i hi).2.2.1 (hS _ rfl), (h i hi).2.2.2⟩⟩⟩

/-- A pool and a book that say the same. -/
structure Both (w : World) (b wb cap bb hb : Nat) (S : Sh) (held : Nat → Bool) : Prop where
  pool : PoolAt w b wb cap S (freeOf S held)
  book : BookAt w bb hb S S.pages held (cnt held S.pages)
  area : InA S held
  ne1 : b ≠ bb
  ne2 : b ≠ hb
  ne3 : wb ≠ bb
  ne4 : wb ≠ hb
theorem Both.keep {L : List Nat} {w w' : World} {b wb cap bb hb : Nat} {S : Sh} {held : Nat → Bool} (h : Both w b wb cap bb hb S held) (k : Kp L w w') (hL : ∀ x ∈ L, x ≠ b ∧ x ≠ wb ∧ x ≠ bb ∧ x ≠ hb) : Both w' b wb cap bb hb S held :=
  ⟨h.pool.keep k (fun hx => (hL _ hx).1 rfl) (fun hx => (hL _ hx).2.1 rfl), h.book.keep k (fun hx => (hL _ hx).2.2.1 rfl) (fun hx => (hL _ hx).2.2.2 rfl), h.area, h.ne1, h.ne2, h.ne3, h.ne4⟩
theorem Both.keep0 {w w' : World} {b wb cap bb hb : Nat} {S : Sh} {held : Nat → Bool} (h : Both w b wb cap bb hb S held) (k : Kp [] w w') : Both w' b wb cap bb hb S held := h.keep k (by simp)

end Go.Proofs.YtoghdhjeopcjkaaDoor
