
/- The walks of the reference's pool: Free, in, Has, border, Area. Conditions: the pool lies in memory (RefAt). -/
import Derived.Test.YtoghdhjeopcjkaaDoorOff
import Derived.Test.YtoghdhjeopcjkaaDoorFreeP
namespace Go.Proofs.YtoghdhjeopcjkaaDoor
open Go.RowKit Go.Deep

/-- The reference's pool in block rb, its marks in block mb. -/
structure RefAt (w : World) (rb mb cap : Nat) (S : Sh) (on : Nat → Bool) : Prop where
  hd : w.heap[rb]? = some (.cells #[.int .i64 S.pages, .int .i64 S.inodes, .int .i64 S.cores, .int .i64 S.data, .slice (some ⟨mb, 0, none⟩) S.pages cap] 107 (0, 0))
  row : ∃ c : Array Value, w.heap[mb]? = some (.cells c 4 (0, 0)) ∧ ∀ i, i < S.pages → c[i]? = some (.bool (on i))
  ne : rb ≠ mb
  ok : S.Ok
  low : ∀ i, i < S.data → on i = false
  off : ∀ i, S.pages ≤ i → on i = false
section
variable {w w' : World} {rb mb cap : Nat} {S : Sh} {on : Nat → Bool}
theorem RefAt.keep {L : List Nat} (h : RefAt w rb mb cap S on) (k : Kp L w w') (h1 : rb ∉ L) (h2 : mb ∉ L) : RefAt w' rb mb cap S on :=
  ⟨k.blk h.hd h1, by obtain ⟨c, h3, h4⟩ := h.row; exact ⟨c, k.blk h3 h2, h4⟩, h.ne, h.ok, h.low, h.off⟩
theorem RefAt.lt (h : RefAt w rb mb cap S on) : rb < w.heap.size := blk_lt h.hd
theorem RefAt.mlt (h : RefAt w rb mb cap S on) : mb < w.heap.size := by obtain ⟨c, h3, _⟩ := h.row; exact blk_lt h3
theorem RefAt.cells (h : RefAt w rb mb cap S on) : w.cell? ⟨rb, 0, none⟩ = some (.int .i64 S.pages) ∧ w.cell? ⟨rb, 1, none⟩ = some (.int .i64 S.inodes) ∧ w.cell? ⟨rb, 2, none⟩ = some (.int .i64 S.cores) ∧ w.cell? ⟨rb, 3, none⟩ = some (.int .i64 S.data) ∧
    w.cell? ⟨rb, 4, none⟩ = some (.slice (some ⟨mb, 0, none⟩) S.pages cap) := by simp [World.cell?, h.hd]
theorem RefAt.mark (h : RefAt w rb mb cap S on) {i : Nat} (hi : i < S.pages) : w.cell? ⟨mb, i, none⟩ = some (.bool (on i)) := by
  obtain ⟨c, h3, h4⟩ := h.row
  rw [blk_cell h3]; exact h4 i hi
theorem RefAt.mf (h : RefAt w rb mb cap S on) (i : Nat) : w.frozen? ⟨mb, i, none⟩ = false := by obtain ⟨c, h3, _⟩ := h.row; exact blk_free h3 i
theorem RefAt.turn (h : RefAt w rb mb cap S on) {i : Nat} (v : Bool) (h1 : S.data ≤ i) (h2 : i < S.pages) : RefAt (w.setCell ⟨mb, i, none⟩ (.bool v)) rb mb cap S (put on i v) := by
  obtain ⟨c, h3, h4⟩ := h.row
  refine ⟨blk_set_ne h.hd h.ne _, ⟨_, blk_set h3 _, fun j hj => ?_⟩, h.ne, h.ok, fun j hj => by rw [put_other _ (by omega)]; exact h.low j hj, fun j hj => by rw [put_other _ (by omega)]; exact h.off j hj⟩
  by_cases e : j = i
  · subst e
    have hlt := (Array.getElem?_eq_some_iff.1 (h4 j hj)).1
    simp [hlt, put]
  · rw [Array.getElem?_setIfInBounds, if_neg (by omega), put_other _ e]; exact h4 j hj

end
end Go.Proofs.YtoghdhjeopcjkaaDoor
