
/- Slices of ints: read, owned, appended to. Conditions: none. -/
import Derived.Test.YtoghdhjeopcjkaaDoorApp
namespace Go.Proofs.YtoghdhjeopcjkaaDoor
open Go.RowKit

def gi (l : List Int) (i : Nat) : Int := l[i]?.getD 0
def ints (l : List Int) : List Value := l.map (Value.int .i64)
theorem ints_get (l : List Int) (i : Nat) (h : i < l.length) : (ints l)[i]? = some (.int .i64 (gi l i)) := by simp [ints, gi, h]
theorem ints_length (l : List Int) : (ints l).length = l.length := by simp [ints]
theorem ints_append (a b : List Int) : ints (a ++ b) = ints a ++ ints b := by simp [ints]
def OwnI (w : World) (base : Nat) (v : Value) (l : List Int) : Prop := w.ownsRow base 3 1 v l.length (ints l)
theorem OwnI.keep {S : List Nat} {w w' : World} {base : Nat} {v : Value} {l : List Int} (h : OwnI w base v l) (k : Kp S w w') (hS : ∀ b, v.ownBlock = some b → b ∉ S) : OwnI w' base v l := ownsRow_keep h k hS
theorem OwnI.low {w : World} {base base' : Nat} {v : Value} {l : List Int} (h : OwnI w base v l) (hb : base' ≤ base) : OwnI w base' v l := ownsRow_lower h hb
theorem OwnI.nil (w : World) (base : Nat) : OwnI w base (.slice none 0 0) [] := World.ownsRow_nil _ _ _ _
theorem OwnI.lt {w : World} {base : Nat} {v : Value} {l : List Int} (h : OwnI w base v l) : ∀ b, v.ownBlock = some b → base ≤ b ∧ b < w.heap.size := World.ownsRow.lt h
theorem OwnI.cases {w : World} {base : Nat} {v : Value} {l : List Int} (h : OwnI w base v l) : (v = .slice none 0 0 ∧ l = []) ∨ ∃ g cap, v = .slice (some ⟨g, 0, none⟩) l.length cap ∧ base ≤ g ∧ g < w.heap.size ∧ l.length ≤ cap ∧ cap ≤ maxLen := by
  rcases h.2 with ⟨h1, h2⟩ | ⟨g, cap, cur, h1, h2, h3, h4, h5, _⟩
  · exact .inl ⟨h1, List.eq_nil_of_length_eq_zero h2⟩
  · exact .inr ⟨g, cap, h1, h2, blk_lt h3, h4, h5⟩
theorem OwnI.form {w : World} {base : Nat} {v : Value} {l : List Int} (h : OwnI w base v l) : ∃ a cap, v = .slice a l.length cap := by
  rcases h.cases with ⟨rfl, rfl⟩ | ⟨g, cp, rfl, _⟩
  · exact ⟨_, _, rfl⟩
  · exact ⟨_, _, rfl⟩
theorem OwnI.cell {w : World} {base g n cap : Nat} {l : List Int} (h : OwnI w base (.slice (some ⟨g, 0, none⟩) n cap) l) (hn : n = l.length) (i : Nat) (hi : i < l.length) :
    w.cell? ⟨g, i, none⟩ = some (.int .i64 (gi l i)) := by
  subst hn
  rw [World.ownsRow.cellAt h _ (by omega)]; exact ints_get l i hi
/-- A slice of ints that is read, from its array's head on. -/
def RdI (w : World) (v : Value) (l : List Int) : Prop :=
  ∃ a cap, v = .slice a l.length cap ∧ (l = [] ∨ ∃ g, a = some ⟨g, 0, none⟩ ∧ ∀ i, i < l.length → w.cell? ⟨g, i, none⟩ = some (.int .i64 (gi l i)))
theorem OwnI.rd {w : World} {base : Nat} {v : Value} {l : List Int} (h : OwnI w base v l) : RdI w v l := by
  rcases h.cases with ⟨rfl, rfl⟩ | ⟨g, cap, rfl, _⟩
  · exact ⟨_, _, rfl, .inl rfl⟩
  · exact ⟨_, _, rfl, .inr ⟨g, rfl, fun i hi => h.cell rfl i hi⟩⟩
theorem RdI.keep {S : List Nat} {w w' : World} {v : Value} {l : List Int} (h : RdI w v l) (k : Kp S w w') (hS : ∀ b, v.ownBlock = some b → b ∉ S) : RdI w' v l := by
  obtain ⟨a, cap, rfl, h | ⟨g, rfl, h⟩⟩ := h
  · exact ⟨_, _, rfl, .inl h⟩
  · exact ⟨_, _, rfl, .inr ⟨g, rfl, fun i hi => k.cell (h i hi) (hS _ rfl)⟩⟩
theorem Tryd.info_int : (Tryd.prog.info? 3).map (fun i => (i.zero, i.size, i.bytes)) = some (some (.int .i64 0), 1, 8) := by kernel_rfl
/-- append of one int. -/
theorem app_int {ops : Array Oper} {rest : List Oper} {o : Oper} {a : Act} {Q : Exit → Act → World → Prop} {w : World} (hgd : o.guard = none) (s x : Operand)
    (ho : o.op = .call { callee := .builtin .append, args := #[s, x], argTypes := #[35, 35] }) (base : Nat) (v : Value) (l : List Int) (hs : a.eval s = v) (hown : OwnI w base v l)
    (g : Nat) (f : Int) (fz : Nat × Nat) (hx : a.eval x = .slice (some ⟨g, 0, none⟩) 1 1) (hc : w.heap[g]? = some (.cells #[.int .i64 f] 3 fz)) (hlen : l.length ≤ 1099511627776) (hbase : base ≤ w.heap.size)
    (h : ∀ v' w', OwnI w' base v' (l ++ [f]) → w.grownBy w' v.ownBlock → (v'.ownBlock = v.ownBlock ∨ v'.ownBlock = some w.heap.size) → wpList Tryd.prog ops Q rest (a.put o.dst v') w') : wpList Tryd.prog ops Q (o :: rest) a w := by
  obtain ⟨i0, hi0, hz0, hz1, hz2⟩ := info_parts Tryd.info_int
  refine wpl_append w hgd s x 35 ho base 3 i0 (.int .i64 0) 1 8 Tryd.underlying35 hi0 hz0 hz1 hz2 rfl (by decide) v l.length (ints l) hs hown
    _ 1 [.int .i64 f] hx ⟨_, _, rfl, .inr ⟨g, 0, rfl, fun j u hj => ?_⟩⟩ rfl ?_ (by unfold maxLen; omega) (by omega) hbase ?_
  · match j, hj with
    | 0, hj => simp at hj; subst hj; simp [blk_cell hc]
  · intro u hu; simp at hu; subst hu; rfl
  · intro v' w' h1 h2 h3
    refine h v' w' ?_ h2 h3
    unfold OwnI
    rw [ints_append, List.length_append]
    exact h1
end Go.Proofs.YtoghdhjeopcjkaaDoor
