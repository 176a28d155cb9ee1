
/- ExtentsAreas: the walk: whatever the three numbers, it answers true. Conditions: numbers of an int. -/
import Derived.Test.YtoghdhjeopcjkaaDoorShape
namespace Go.Proofs.YtoghdhjeopcjkaaDoor
open Go.RowKit Go.Deep

theorem span_neq (a b c d : Int) (w : World) : (binOp .neq 63 (.agg #[.int .i64 a, .int .i64 b]) (.agg #[.int .i64 c, .int .i64 d])).run Tryd.prog w = .ok (.bool (!((a == c) && (b == d)))) w := by
  cases h1 : (a == c) <;> cases h2 : (b == d) <;> simp [go_sem, h1, h2, Tryd.underlying63, Tryd.underlying3]
theorem span_eql (a b c d : Int) (w : World) : (binOp .eql 63 (.agg #[.int .i64 a, .int .i64 b]) (.agg #[.int .i64 c, .int .i64 d])).run Tryd.prog w = .ok (.bool ((a == c) && (b == d))) w := by
  cases h1 : (a == c) <;> cases h2 : (b == d) <;> simp [go_sem, h1, h2, Tryd.underlying63, Tryd.underlying3]
theorem or64 (c : Int) : bits .or .i64 c 64 < 0 ∨ 64 ≤ bits .or .i64 c 64 := by
  obtain ⟨n, e, h1, h2⟩ : ∃ n : Nat, bits .or .i64 c 64 = IntKind.i64.wrap (n : Int) ∧ 64 ≤ n ∧ n < 18446744073709551616 := by
    refine ⟨(BitVec.ofInt 64 c ||| BitVec.ofInt 64 64).toNat, rfl, ?_, (BitVec.ofInt 64 c ||| BitVec.ofInt 64 64).isLt⟩
    rw [BitVec.toNat_or]
    exact Nat.le_trans (by decide) Nat.right_le_or
  rw [e, IntKind.wrap_i64]
  omega
theorem or64' (c : Int) {n : Nat} (h : n ≤ 8) : bits .or .i64 c 64 < 0 ∨ (n : Int) ≤ bits .or .i64 c 64 := by have := or64 c; omega
/-- A shape lies in block b. -/
def ShAt (w : World) (b : Nat) (S : Sh) : Prop := w.heap[b]? = some (.cells #[.int .i64 S.pages, .int .i64 S.inodes, .int .i64 S.cores, .int .i64 S.data] 38 (0, 0))
theorem ShAt.cells {w : World} {b : Nat} {S : Sh} (h : ShAt w b S) : w.cell? ⟨b, 0, none⟩ = some (.int .i64 S.pages) ∧ w.cell? ⟨b, 1, none⟩ = some (.int .i64 S.inodes) ∧ w.cell? ⟨b, 2, none⟩ = some (.int .i64 S.cores) ∧ w.cell? ⟨b, 3, none⟩ = some (.int .i64 S.data) := blk4 h
theorem ShAt.keep {L : List Nat} {w w' : World} {b : Nat} {S : Sh} (h : ShAt w b S) (k : Kp L w w') (hb : b ∉ L) : ShAt w' b S := k.blk h hb

theorem goodTo_nil (S : Sh) : goodTo S [] 0 := fun j hj => by omega

end Go.Proofs.YtoghdhjeopcjkaaDoor
