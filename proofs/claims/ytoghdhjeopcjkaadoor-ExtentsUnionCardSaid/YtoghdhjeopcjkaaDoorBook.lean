
/- The walks of the laws' book: took, some. Conditions: the book lies in memory (BookAt). -/
import Derived.Test.YtoghdhjeopcjkaaDoorBookP
import Derived.Test.YtoghdhjeopcjkaaDoorInts
namespace Go.Proofs.YtoghdhjeopcjkaaDoor
open Go.RowKit

/-- A book lies in block bb, its marks in block hb. -/
structure BookAt (w : World) (bb hb : Nat) (S : Sh) (n : Nat) (held : Nat → Bool) (many : Nat) : Prop where
  hd : w.heap[bb]? = some (.cells #[.int .i64 S.pages, .int .i64 S.inodes, .int .i64 S.cores, .int .i64 S.data, .slice (some ⟨hb, 0, none⟩) n n, .int .i64 many] 51 (0, 0))
  row : ∃ c : Array Value, w.heap[hb]? = some (.cells c 4 (0, 0)) ∧ ∀ i, i < n → c[i]? = some (.bool (held i))
  ne : bb ≠ hb
section
variable {w w' : World} {bb hb n many : Nat} {S : Sh} {held : Nat → Bool}
theorem BookAt.keep {L : List Nat} (h : BookAt w bb hb S n held many) (k : Kp L w w') (h1 : bb ∉ L) (h2 : hb ∉ L) : BookAt w' bb hb S n held many :=
  ⟨k.blk h.hd h1, by obtain ⟨c, h3, h4⟩ := h.row; exact ⟨c, k.blk h3 h2, h4⟩, h.ne⟩
theorem BookAt.drewN (h : BookAt w bb hb S n held many) (k : Nat) : BookAt (w.drewN k) bb hb S n held many := h.keep (L := []) ((Kp.refl _ _).drewN k) (by simp) (by simp)
theorem BookAt.lt (h : BookAt w bb hb S n held many) : bb < w.heap.size := blk_lt h.hd
theorem BookAt.hlt (h : BookAt w bb hb S n held many) : hb < w.heap.size := by obtain ⟨c, h3, _⟩ := h.row; exact blk_lt h3
theorem BookAt.cells (h : BookAt w bb hb S n held many) : w.cell? ⟨bb, 0, none⟩ = some (.int .i64 S.pages) ∧ w.cell? ⟨bb, 2, none⟩ = some (.int .i64 S.cores) ∧ w.cell? ⟨bb, 3, none⟩ = some (.int .i64 S.data) ∧
    w.cell? ⟨bb, 4, none⟩ = some (.slice (some ⟨hb, 0, none⟩) n n) ∧ w.cell? ⟨bb, 5, none⟩ = some (.int .i64 many) := by simp [World.cell?, h.hd]
theorem BookAt.mark (h : BookAt w bb hb S n held many) {i : Nat} (hi : i < n) : w.cell? ⟨hb, i, none⟩ = some (.bool (held i)) := by
  obtain ⟨c, h3, h4⟩ := h.row
  rw [blk_cell h3]; exact h4 i hi
theorem BookAt.f (h : BookAt w bb hb S n held many) (i : Nat) : w.frozen? ⟨bb, i, none⟩ = false := blk_free h.hd i
theorem BookAt.hf (h : BookAt w bb hb S n held many) (i : Nat) : w.frozen? ⟨hb, i, none⟩ = false := by obtain ⟨c, h3, _⟩ := h.row; exact blk_free h3 i
/-- What a store of one mark and one of the count leave. -/
theorem BookAt.turn (h : BookAt w bb hb S n held many) {i : Nat} (v : Bool) {m : Int} {m2 : Nat} (hm : m = m2) :
    BookAt ((w.setCell ⟨hb, i, none⟩ (.bool v)).setCell ⟨bb, 5, none⟩ (.int .i64 m)) bb hb S n (put held i v) m2 := by
  subst hm
  obtain ⟨c, h3, h4⟩ := h.row
  refine ⟨?_, ⟨c.setIfInBounds i (.bool v), blk_set_ne (blk_set h3 _) (Ne.symm h.ne) _, fun j hj => ?_⟩, h.ne⟩
  · rw [blk_set (blk_set_ne h.hd h.ne _)]; simp
  · by_cases e : j = i
    · subst e
      have hlt := (Array.getElem?_eq_some_iff.1 (h4 j hj)).1
      simp [hlt, put]
    · rw [Array.getElem?_setIfInBounds, if_neg (by omega), put_other _ e]; exact h4 j hj

end
end Go.Proofs.YtoghdhjeopcjkaaDoor
