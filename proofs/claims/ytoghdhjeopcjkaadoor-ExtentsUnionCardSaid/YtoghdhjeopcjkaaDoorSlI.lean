
/- Slices of slices of ints, and append of them. Conditions: those of each lemma. -/
import Derived.Test.YtoghdhjeopcjkaaDoorInts
namespace Go.Proofs.YtoghdhjeopcjkaaDoor
open Go.RowKit

theorem Src.keep {S : List Nat} {w w' : World} {v : Value} {m : Nat} {news : List Value} (h : Src w v m news) (k : Kp S w w') (hS : ∀ b, v.ownBlock = some b → b ∉ S) : Src w' v m news := by
  obtain ⟨ao, c, rfl, h | ⟨g, o, rfl, h⟩⟩ := h
  · exact ⟨_, _, rfl, .inl h⟩
  · exact ⟨_, _, rfl, .inr ⟨g, o, rfl, fun j u hj => k.cell (h j u hj) (hS _ rfl)⟩⟩
theorem Tryd.elem_ints : Tryd.prog.underlying 35 = some (.slice (Tryd.prog.elem 35)) := by kernel_rfl
theorem Tryd.size_ints (w : World) : (sizeOf (Tryd.prog.elem 35)).run Tryd.prog w = .ok 1 w := by kernel_rfl
/-- l[:k] and l[k:] of a slice of ints. -/
theorem cut_ints {w : World} {base : Nat} {a : Option Addr} {n cap : Nat} {l : List Int} (h : OwnI w base (.slice a n cap) l) (hn : n = l.length) (k : Nat) (hk : k ≤ n) :
    ∃ s1 s2, (∀ W, (Instr.slice 35 (.slice a n cap) none (some (.int .i64 (k : Int))) none).run Tryd.prog W = .ok s1 W) ∧
      (∀ W, (Instr.slice 35 (.slice a n cap) (some (.int .i64 (k : Int))) none none).run Tryd.prog W = .ok s2 W) ∧
      Src w s1 (l.take k).length (ints (l.take k)) ∧ Src w s2 (l.drop k).length (ints (l.drop k)) ∧
      (∀ x, s1.ownBlock = some x → Value.ownBlock (.slice a n cap) = some x) ∧ (∀ x, s2.ownBlock = some x → Value.ownBlock (.slice a n cap) = some x) := by
  subst hn
  have hcap : l.length ≤ cap := by
    rcases h.cases with ⟨h1, h2⟩ | ⟨g, c, h1, _, _, h2, _⟩
    · subst h2; simp
    · injection h1 with _ _ h3; subst h3; exact h2
  refine ⟨sliced a 0 k cap 1, sliced a k l.length cap 1, ?_, ?_, ?_, ?_, ?_, ?_⟩
  · intro W
    rw [run_slice_h W _ a _ cap Tryd.elem_ints .i64 k (by omega) (by omega)]
    simp only [Tryd.size_ints, Result.andThen_ok, Int.toNat_natCast]
  · intro W
    rw [run_slice_l W _ a _ cap Tryd.elem_ints .i64 k (by omega) (by omega)]
    simp only [Tryd.size_ints, Result.andThen_ok, Int.toNat_natCast]
  · have e : (l.take k).length = k := by simp; omega
    rw [e]
    rcases h.cases with ⟨h1, rfl⟩ | ⟨g, c, h1, _, _, h2, _⟩
    · injection h1 with h3 h4 h5
      subst h3; subst h5
      have : k = 0 := by simpa using hk
      subst this
      exact ⟨_, _, rfl, .inl ⟨by simp, rfl, by simp, by simp [ints]⟩⟩
    · injection h1 with h3 h4 h5
      subst h3; subst h5
      refine ⟨_, _, rfl, .inr ⟨g, 0, by simp [Addr.add], fun j u hj => ?_⟩⟩
      have hj2 : j < k := by have := (List.getElem?_eq_some_iff.1 hj).1; simp [ints] at this; omega
      have hg : gi (l.take k) j = gi l j := by simp only [gi]; rw [List.getElem?_take, if_pos hj2]
      rw [ints_get _ _ (by simp; omega), hg] at hj
      rw [Nat.zero_add, h.cell rfl j (by omega), hj]
  · have e : (l.drop k).length = l.length - k := by simp
    rw [e]
    rcases h.cases with ⟨h1, rfl⟩ | ⟨g, c, h1, _, _, h2, _⟩
    · injection h1 with h3 h4 h5
      subst h3; subst h5
      have : k = 0 := by simpa using hk
      subst this
      exact ⟨_, _, rfl, .inl ⟨by simp, by simp, by simp, by simp [ints]⟩⟩
    · injection h1 with h3 h4 h5
      subst h3; subst h5
      by_cases hc : cap = k
      · subst hc
        refine ⟨_, _, rfl, .inr ⟨g, 0, by simp, fun j u hj => ?_⟩⟩
        have := (List.getElem?_eq_some_iff.1 hj).1; simp [ints] at this; omega
      · refine ⟨_, _, rfl, .inr ⟨g, k, by rw [if_neg hc]; simp only [Option.map_some, Nat.mul_one, Addr.add]; split <;> simp_all, fun j u hj => ?_⟩⟩
        have hj2 : k + j < l.length := by have := (List.getElem?_eq_some_iff.1 hj).1; simp [ints] at this; omega
        have hg : gi (l.drop k) j = gi l (k + j) := by simp only [gi]; rw [List.getElem?_drop]
        rw [ints_get _ _ (by simp; omega), hg] at hj
        rw [h.cell rfl (k + j) hj2, hj]
  · intro x hx
    rcases h.cases with ⟨h1, rfl⟩ | ⟨g, c, h1, _, _, h2, _⟩
    · injection h1 with h3 h4 h5
      subst h3; subst h5
      simp [sliced, Value.ownBlock] at hx
    · injection h1 with h3 h4 h5
      subst h3; subst h5
      by_cases hc : cap = 0 <;> (simp [sliced, Value.ownBlock, Addr.add, hc] at hx ⊢; exact hx)
  · intro x hx
    rcases h.cases with ⟨h1, rfl⟩ | ⟨g, c, h1, _, _, h2, _⟩
    · injection h1 with h3 h4 h5
      subst h3; subst h5
      simp [sliced, Value.ownBlock] at hx
    · injection h1 with h3 h4 h5
      subst h3; subst h5
      by_cases hc : cap = k
      · simp [sliced, Value.ownBlock, hc] at hx ⊢; exact hx
      · by_cases hk0 : k = 0
        · subst hk0
          simp [sliced, Value.ownBlock, Addr.add, hc] at hx ⊢; exact hx
        · simp [sliced, Value.ownBlock, Addr.add, hc, hk0] at hx ⊢; exact hx
/-- l[:k], read. -/
theorem head_ints {w : World} {base : Nat} {a : Option Addr} {n cap : Nat} {l : List Int} (h : OwnI w base (.slice a n cap) l) (hn : n = l.length) (k : Nat) (hk : k ≤ n) :
    ∃ s1, (∀ W, (Instr.slice 35 (.slice a n cap) none (some (.int .i64 (k : Int))) none).run Tryd.prog W = .ok s1 W) ∧
      (∀ W, RdI W (.slice a n cap) l → RdI W s1 (l.take k)) ∧ (∀ x, s1.ownBlock = some x → Value.ownBlock (.slice a n cap) = some x) := by
  subst hn
  have hcap : l.length ≤ cap := by
    rcases h.cases with ⟨h1, h2⟩ | ⟨g, c, h1, _, _, h2, _⟩
    · subst h2; simp
    · injection h1 with _ _ h3; subst h3; exact h2
  refine ⟨sliced a 0 k cap 1, ?_, ?_, ?_⟩
  · intro W
    rw [run_slice_h W _ a _ cap Tryd.elem_ints .i64 k (by omega) (by omega)]
    simp only [Tryd.size_ints, Result.andThen_ok, Int.toNat_natCast]
  · intro W hr
    have e : (l.take k).length = k := by simp; omega
    obtain ⟨a', c', e1, hr⟩ := hr
    injection e1 with e2 e3 e4
    subst e2; subst e4
    by_cases hk0 : k = 0
    · subst hk0
      exact ⟨_, _, by rw [e]; rfl, .inl (by simp)⟩
    · rcases hr with hnil | ⟨g, rfl, hr⟩
      · subst hnil; simp at hk; omega
      · refine ⟨_, _, by rw [e]; rfl, .inr ⟨g, by simp [Addr.add], fun i hi => ?_⟩⟩
        rw [e] at hi
        have hg : gi (l.take k) i = gi l i := by simp only [gi]; rw [List.getElem?_take, if_pos hi]
        rw [hg]
        exact hr i (by omega)
  · intro x hx
    rcases h.cases with ⟨h1, rfl⟩ | ⟨g, c, h1, _, _, h2, _⟩
    · injection h1 with h3 h4 h5
      subst h3; subst h5
      simp [sliced, Value.ownBlock] at hx
    · injection h1 with h3 h4 h5
      subst h3; subst h5
      by_cases hc : cap = 0 <;> (simp [sliced, Value.ownBlock, Addr.add, hc] at hx ⊢; exact hx)
/-- append of a slice of ints. -/
theorem app_ints {ops : Array Oper} {rest : List Oper} {o : Oper} {a : Act} {Q : Exit → Act → World → Prop} {w : World} (hgd : o.guard = none) (s x : Operand)
    (ho : o.op = .call { callee := .builtin .append, args := #[s, x], argTypes := #[35, 35] }) (base : Nat) (v : Value) (l : List Int) (hs : a.eval s = v) (hown : OwnI w base v l)
    (xv : Value) (m : List Int) (hx : a.eval x = xv) (hsrc : Src w xv m.length (ints m)) (hlen : l.length ≤ 549755813888) (hlen2 : m.length ≤ 549755813888) (hbase : base ≤ w.heap.size)
    (h : ∀ v' w', OwnI w' base v' (l ++ m) → w.grownBy w' v.ownBlock → (v'.ownBlock = v.ownBlock ∨ v'.ownBlock = some w.heap.size) → wpList Tryd.prog ops Q rest (a.put o.dst v') w') : wpList Tryd.prog ops Q (o :: rest) a w := by
  obtain ⟨i0, hi0, hz0, hz1, hz2⟩ := info_parts Tryd.info_int
  refine wpl_append w hgd s x 35 ho base 3 i0 (.int .i64 0) 1 8 Tryd.underlying35 hi0 hz0 hz1 hz2 rfl (by decide) v l.length (ints l) hs hown
    _ m.length (ints m) hx hsrc (by rw [ints_length, Nat.mul_one]) ?_ (by unfold maxLen; omega) (by omega) hbase ?_
  · intro u hu
    simp only [ints, List.mem_map] at hu
    obtain ⟨y, _, rfl⟩ := hu
    rfl
  · intro v' w' h1 h2 h3
    refine h v' w' ?_ h2 h3
    unfold OwnI
    rw [ints_append, List.length_append]
    exact h1
end Go.Proofs.YtoghdhjeopcjkaaDoor
