
/- The walks of the reference's Spans and Core. Conditions: the pool lies in memory (RefAt). -/
import Derived.Test.YtoghdhjeopcjkaaDoorRef2
namespace Go.Proofs.YtoghdhjeopcjkaaDoor
open Go.RowKit Go.Deep

theorem runsTo_skips (p : Nat → Bool) (d k : Nat) (h : ∀ i, i < d → p i = false) : runsTo p 0 (d + k) = runsTo p d k := by
  rw [runsTo_spansOf, runsTo_spansOf, pgs_append, Nat.zero_add]
  have e : pgs p 0 d = [] := by
    rw [List.eq_nil_iff_forall_not_mem]
    intro i hi
    have := mem_pgs.1 hi
    rw [h i (by omega)] at this
    exact absurd this.2.2 (by simp)
  rw [e]; rfl
/-- Only the marks from F on below F + C. -/
def cutTo (on : Nat → Bool) (F C : Nat) : Nat → Bool := fun i => on i && decide (F ≤ i) && decide (i < F + C)
theorem runs_cut (on : Nat → Bool) (F C n : Nat) (h : F + C ≤ n) : runsTo (cutTo on F C) 0 n = runsTo on F C := by
  obtain ⟨r, rfl⟩ : ∃ r, n = F + C + r := ⟨n - (F + C), by omega⟩
  rw [runsTo_spansOf, runsTo_spansOf, pgs_append, pgs_append, Nat.zero_add]
  have e1 : pgs (cutTo on F C) 0 F = [] := by
    rw [List.eq_nil_iff_forall_not_mem]
    intro i hi
    have := mem_pgs.1 hi
    simp [cutTo] at this
    omega
  have e2 : pgs (cutTo on F C) (0 + (F + C)) r = [] := by
    rw [List.eq_nil_iff_forall_not_mem]
    intro i hi
    have := mem_pgs.1 hi
    simp [cutTo] at this
    omega
  have e3 : pgs (cutTo on F C) F C = pgs on F C := pgs_congr fun i h1 h2 => by
    simp only [cutTo]
    have a1 : decide (F ≤ i) = true := by simpa using h1
    have a2 : decide (i < F + C) = true := by simpa using h2
    rw [a1, a2]; simp
  rw [e1, e2, e3]; simp

def bls (f : Nat → Bool) (n : Nat) : List Value := (List.range n).map fun (i : Nat) => Value.bool (f i)
theorem bls_length (f : Nat → Bool) (n : Nat) : (bls f n).length = n := by simp [bls]
theorem bls_succ (f : Nat → Bool) (n : Nat) : bls f (n + 1) = bls f n ++ [Value.bool (f n)] := by simp [bls, List.range_succ]
theorem bls_get (f : Nat → Bool) (n i : Nat) (h : i < n) : (bls f n)[i]? = some (.bool (f i)) := by simp [bls, h]
/-- An own list of n marks. -/
def OwnB (w : World) (base : Nat) (v : Value) (n : Nat) (f : Nat → Bool) : Prop := w.ownsRow base 4 1 v n (bls f n)
theorem OwnB.nil (w : World) (base : Nat) (f : Nat → Bool) : OwnB w base (.slice none 0 0) 0 f := World.ownsRow_nil _ _ _ _
theorem OwnB.keep {S : List Nat} {w w' : World} {base n : Nat} {v : Value} {f : Nat → Bool} (h : OwnB w base v n f) (k : Kp S w w') (hS : ∀ b, v.ownBlock = some b → b ∉ S) : OwnB w' base v n f := ownsRow_keep h k hS
theorem OwnB.lt {w : World} {base n : Nat} {v : Value} {f : Nat → Bool} (h : OwnB w base v n f) : ∀ b, v.ownBlock = some b → base ≤ b ∧ b < w.heap.size := World.ownsRow.lt h
theorem OwnB.rd {w : World} {base n : Nat} {v : Value} {f : Nat → Bool} (h : OwnB w base v n f) : RdB w v n f := by
  have h' := h
  rcases h.2 with ⟨rfl, h2⟩ | ⟨g, cap, cur, rfl, h2, h3, h4, h5, _⟩
  · subst h2; exact ⟨_, _, rfl, .inl rfl⟩
  · exact ⟨_, _, rfl, .inr ⟨g, rfl, fun i hi => by rw [World.ownsRow.cellAt h' _ (by omega)]; exact bls_get f n i hi⟩⟩
/-- append of one mark. -/
theorem app_bool {ops : Array Oper} {rest : List Oper} {o : Oper} {a : Act} {Q : Exit → Act → World → Prop} {w : World} (hgd : o.guard = none) (s x : Operand)
    (ho : o.op = .call { callee := .builtin .append, args := #[s, x], argTypes := #[45, 45] }) (base : Nat) (v : Value) (n : Nat) (f : Nat → Bool) (hs : a.eval s = v) (hown : OwnB w base v n f)
    (g : Nat) (q : Bool) (hq : q = f n) (fz : Nat × Nat) (hx : a.eval x = .slice (some ⟨g, 0, none⟩) 1 1) (hc : w.heap[g]? = some (.cells #[.bool q] 4 fz)) (hlen : n ≤ 1099511627776) (hbase : base ≤ w.heap.size)
    (h : ∀ v' w', OwnB w' base v' (n + 1) f → w.grownBy w' v.ownBlock → wpList Tryd.prog ops Q rest (a.put o.dst v') w') : wpList Tryd.prog ops Q (o :: rest) a w := by
  obtain ⟨i0, hi0, hz0, hz1, hz2⟩ := info_parts Tryd.info_bool
  refine wpl_append w hgd s x 45 ho base 4 i0 (.bool false) 1 1 Tryd.underlying45 hi0 hz0 hz1 hz2 rfl (by decide) v n (bls f n) hs hown
    _ 1 [.bool q] hx ⟨_, _, rfl, .inr ⟨g, 0, rfl, fun j u hj => ?_⟩⟩ rfl ?_ (by unfold maxLen; omega) (by omega) hbase ?_
  · match j, hj with
    | 0, hj => simp at hj; subst hj; simp [blk_cell hc]
  · intro u hu; simp at hu; subst hu; rfl
  · intro v' w' h1 h2 h3
    refine h v' w' ?_ h2
    unfold OwnB
    rw [bls_succ, ← hq]
    exact h1

section
variable {w w' : World} {rb mb cap : Nat} {S : Sh} {on : Nat → Bool}
theorem RefAt.rd (h : RefAt w rb mb cap S on) : RdB w (.slice (some ⟨mb, 0, none⟩) S.pages cap) S.pages on := ⟨_, _, rfl, .inr ⟨mb, rfl, fun _ hi => h.mark hi⟩⟩
end
end Go.Proofs.YtoghdhjeopcjkaaDoor
