
/- Slices of slices of spans, and append of them. Conditions: those of each lemma. -/
import Derived.Test.YtoghdhjeopcjkaaDoorSlI
namespace Go.Proofs.YtoghdhjeopcjkaaDoor
open Go.RowKit

/-- A callee that only reads, met behind draws already made. -/
theorem reads_on {f : FuncId} {args : Array Value} {w : World} {v : Value} (h : ∀ m, Calls Tryd.prog f args (w.drewN m) fun e w' => e = .returned v ∧ ∃ k, w' = (w.drewN m).drewN k) (a n : Nat) :
    Calls Tryd.prog f args (w.drewN (a + n)) fun e w' => e = .returned v ∧ ∃ m, w' = w.drewN (a + m) :=
  (h (a + n)).mono fun _ _ ⟨he, k, hk⟩ => ⟨he, n + k, by rw [hk, World.drewN_drewN, Nat.add_assoc]⟩
theorem src_blk {w : World} {g : Nat} {c : Array Value} {T : TypeId} {fz : Nat × Nat} (h : w.heap[g]? = some (.cells c T fz)) (m n : Nat) : Src w (.slice (some ⟨g, 0, none⟩) m n) m c.toList :=
  ⟨_, _, rfl, .inr ⟨g, 0, rfl, fun j u hj => by rw [Nat.zero_add, blk_cell h, ← hj, Array.getElem?_toList]⟩⟩
theorem Tryd.elem_spans : Tryd.prog.underlying 36 = some (.slice (Tryd.prog.elem 36)) := by kernel_rfl
theorem Tryd.size_spans (w : World) : (sizeOf (Tryd.prog.elem 36)).run Tryd.prog w = .ok 2 w := by kernel_rfl
theorem fr_take {l : Sps} {k i : Nat} (h : i < k) : fr (l.take k) i = fr l i := by simp only [fr]; rw [List.getElem?_take, if_pos h]
theorem ct_take {l : Sps} {k i : Nat} (h : i < k) : ct (l.take k) i = ct l i := by simp only [ct]; rw [List.getElem?_take, if_pos h]
/-- l[:k] of a slice of spans. -/
theorem cut_spans {w : World} {base : Nat} {a : Option Addr} {n cap : Nat} {l : Sps} (h : Own w base (.slice a n cap) l) (hn : n = l.length) (k : Nat) (hk : k ≤ n) :
    ∃ s1, (∀ W, (Instr.slice 36 (.slice a n cap) none (some (.int .i64 (k : Int))) none).run Tryd.prog W = .ok s1 W) ∧
      (∀ W, RdS W (.slice a n cap) l → RdS W s1 (l.take k)) ∧ (∀ x, s1.ownBlock = some x → Value.ownBlock (.slice a n cap) = some x) := by
  subst hn
  have hcap : l.length ≤ cap := by
    rcases h.cases with ⟨h1, h2⟩ | ⟨g, c, h1, _, _, h2, _⟩
    · subst h2; simp
    · injection h1 with _ _ h3; subst h3; exact h2
  refine ⟨sliced a 0 k cap 2, ?_, ?_, ?_⟩
  · intro W
    rw [run_slice_h W _ a _ cap Tryd.elem_spans .i64 k (by omega) (by omega)]
    simp only [Tryd.size_spans, Result.andThen_ok, Int.toNat_natCast]
  · intro W hr
    have e : (l.take k).length = k := by simp; omega
    obtain ⟨a', c', e1, hr⟩ := hr
    injection e1 with e2 e3 e4
    subst e2; subst e4
    by_cases hk0 : k = 0
    · subst hk0
      exact ⟨_, _, by rw [e]; rfl, .inl (by simp)⟩
    · rcases hr with hnil | ⟨g, rfl, hr⟩
      · subst hnil; simp at hk; omega
      · refine ⟨_, _, by rw [e]; rfl, .inr ⟨g, by simp [Addr.add], fun i hi => ?_⟩⟩
        rw [e] at hi
        rw [fr_take hi, ct_take hi]
        exact hr i (by omega)
  · intro x hx
    rcases h.cases with ⟨h1, rfl⟩ | ⟨g, c, h1, _, _, h2, _⟩
    · injection h1 with h3 h4 h5
      subst h3; subst h5
      simp [sliced, Value.ownBlock] at hx
    · injection h1 with h3 h4 h5
      subst h3; subst h5
      by_cases hc : cap = 0 <;> (simp [sliced, Value.ownBlock, Addr.add, hc] at hx ⊢; exact hx)
/-- append of spans. -/
theorem app_spans {ops : Array Oper} {rest : List Oper} {o : Oper} {a : Act} {Q : Exit → Act → World → Prop} {w : World} (hgd : o.guard = none) (s x : Operand)
    (ho : o.op = .call { callee := .builtin .append, args := #[s, x], argTypes := #[36, 36] }) (base : Nat) (v : Value) (l : Sps) (hs : a.eval s = v) (hown : Own w base v l)
    (xv : Value) (m : Sps) (hx : a.eval x = xv) (hsrc : Src w xv m.length (flat m)) (hlen : l.length ≤ 549755813888) (hlen2 : m.length ≤ 549755813888) (hbase : base ≤ w.heap.size)
    (h : ∀ v' w', Own w' base v' (l ++ m) → w.grownBy w' v.ownBlock → (v'.ownBlock = v.ownBlock ∨ v'.ownBlock = some w.heap.size) → wpList Tryd.prog ops Q rest (a.put o.dst v') w') : wpList Tryd.prog ops Q (o :: rest) a w := by
  obtain ⟨i0, hi0, hz0, hz1, hz2⟩ := info_parts Tryd.info_span
  refine wpl_append w hgd s x 36 ho base 63 i0 (.agg #[.int .i64 0, .int .i64 0]) 2 16 Tryd.underlying36 hi0 hz0 hz1 hz2 rfl (by decide) v l.length (flat l) hs hown
    _ m.length (flat m) hx hsrc (flat_length m) (fun u hu => ?_) (by unfold maxLen; omega) (by omega) hbase ?_
  · simp only [flat, List.mem_flatMap] at hu
    obtain ⟨y, _, hy⟩ := hu
    simp at hy
    rcases hy with rfl | rfl <;> rfl
  · intro v' w' h1 h2 h3
    refine h v' w' ?_ h2 h3
    unfold Own
    rw [flat_append, List.length_append]
    exact h1
end Go.Proofs.YtoghdhjeopcjkaaDoor
