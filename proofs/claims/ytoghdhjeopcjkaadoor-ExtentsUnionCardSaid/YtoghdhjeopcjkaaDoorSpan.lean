
/- Lists of spans: what a scan of marks gives, and the walk of marks.spans. Conditions: the bitmap lies in memory (MarksAt). -/
import Derived.Test.YtoghdhjeopcjkaaDoorMarks
namespace Go.Proofs.YtoghdhjeopcjkaaDoor
open Go.RowKit

/-! ### plain: a list of spans, a number put behind it -/
abbrev Sps := List (Int × Int)
def fr (l : Sps) (i : Nat) : Int := (l[i]?.getD (0, 0)).1
def ct (l : Sps) (i : Nat) : Int := (l[i]?.getD (0, 0)).2
def flat (l : Sps) : List Value := l.flatMap fun x => [Value.int .i64 x.1, Value.int .i64 x.2]
theorem flat_nil : flat [] = [] := rfl
theorem flat_append (a b : Sps) : flat (a ++ b) = flat a ++ flat b := by simp [flat]
theorem flat_length (l : Sps) : (flat l).length = l.length * 2 := by
  induction l with
  | nil => rfl
  | cons x l ih => simp only [flat, List.flatMap_cons, List.length_append, List.length_cons, List.length_nil] at ih ⊢; omega
theorem flat_get (l : Sps) (i : Nat) (h : i < l.length) : (flat l)[i * 2]? = some (.int .i64 (fr l i)) ∧ (flat l)[i * 2 + 1]? = some (.int .i64 (ct l i)) := by
  induction l generalizing i with
  | nil => simp at h
  | cons x l ih =>
    cases i with
    | zero => simp [flat, fr, ct]
    | succ i =>
      have := ih i (by simpa using h)
      rw [show (i + 1) * 2 = i * 2 + 1 + 1 by omega]
      simpa [flat, fr, ct] using this
/-- The last span's count one more. -/
theorem flat_raise (l : Sps) (f c c2 : Int) : (flat (l ++ [(f, c)])).set (l.length * 2 + 1) (.int .i64 c2) = flat (l ++ [(f, c2)]) := by
  rw [flat_append, flat_append]
  simp only [flat, List.flatMap_cons, List.flatMap_nil, List.append_nil]
  rw [List.set_append_right _ _ (by have := flat_length l; simp only [flat] at this; omega)]
  have := flat_length l
  simp only [flat] at this
  rw [this, show l.length * 2 + 1 - l.length * 2 = 1 by omega]
  rfl

/-- A number put behind a list of spans: it makes the last span longer, or begins one. -/
def push (l : Sps) (x : Int) : Sps :=
  match l.getLast? with
  | some (f, c) => if f + c = x then l.dropLast ++ [(f, c + 1)] else l ++ [(x, 1)]
  | none => [(x, 1)]
theorem push_nil (x : Int) : push [] x = [(x, 1)] := rfl
theorem push_join (l : Sps) (f c x : Int) (h : f + c = x) : push (l ++ [(f, c)]) x = l ++ [(f, c + 1)] := by simp [push, h]
theorem push_far (l : Sps) (f c x : Int) (h : f + c ≠ x) : push (l ++ [(f, c)]) x = l ++ [(f, c)] ++ [(x, 1)] := by simp [push, h]
/-- The spans of the numbers lo, .., lo + k - 1 that have p. -/
def runsTo (p : Nat → Bool) (lo : Nat) : Nat → Sps
  | 0 => []
  | k + 1 => if p (lo + k) then push (runsTo p lo k) ((lo + k : Nat) : Int) else runsTo p lo k
/-- Spans in order, none beyond the number 'to'. -/
def Upto (l : Sps) (to : Int) : Prop := ∀ x ∈ l, 0 ≤ x.1 ∧ 1 ≤ x.2 ∧ x.1 + x.2 ≤ to
theorem Upto.mono {l : Sps} {a b : Int} (h : Upto l a) (hb : a ≤ b) : Upto l b := fun x hx => by have := h x hx; omega
theorem push_upto {l : Sps} {x : Int} (h : Upto l x) (hx : 0 ≤ x) : Upto (push l x) (x + 1) := by
  rcases List.eq_nil_or_concat l with rfl | ⟨l, ⟨f, c⟩, rfl⟩
  · intro y hy; simp [push] at hy; subst hy; simp; omega
  · rw [List.concat_eq_append] at *
    have hl := h (f, c) (by simp)
    by_cases e : f + c = x
    · rw [push_join _ _ _ _ e]
      intro y hy
      simp at hy
      rcases hy with hy | hy
      · have := h y (by simp [hy]); omega
      · subst hy; simp at hl ⊢; omega
    · rw [push_far _ _ _ _ e]
      intro y hy
      simp at hy
      rcases hy with hy | hy | hy
      · have := h y (by simp [hy]); omega
      · subst hy; simp at hl ⊢; omega
      · subst hy; simp; omega
theorem runsTo_upto (p : Nat → Bool) (lo k : Nat) : Upto (runsTo p lo k) ((lo + k : Nat) : Int) := by
  induction k with
  | zero => intro x hx; simp [runsTo] at hx
  | succ k ih =>
    simp only [runsTo]
    split
    · have := push_upto ih (by omega); intro y hy; have := this y hy; omega
    · exact ih.mono (by omega)
theorem push_length (l : Sps) (x : Int) : (push l x).length ≤ l.length + 1 := by
  rcases List.eq_nil_or_concat l with rfl | ⟨l, ⟨f, c⟩, rfl⟩
  · simp [push]
  · rw [List.concat_eq_append]
    by_cases e : f + c = x
    · rw [push_join _ _ _ _ e]; simp
    · rw [push_far _ _ _ _ e]; simp
theorem runsTo_length (p : Nat → Bool) (lo k : Nat) : (runsTo p lo k).length ≤ k := by
  induction k with
  | zero => simp [runsTo]
  | succ k ih =>
    simp only [runsTo]
    split
    · have := push_length (runsTo p lo k) ((lo + k : Nat) : Int); omega
    · omega

/-! ### what a slice of spans owns -/
def Own (w : World) (base : Nat) (v : Value) (l : Sps) : Prop := w.ownsRow base 63 2 v l.length (flat l)
theorem ownsRow_keep {S : List Nat} {w w' : World} {base : Nat} {e : TypeId} {size : Nat} {v : Value} {n : Nat} {xs : List Value} (h : w.ownsRow base e size v n xs) (k : Kp S w w')
    (hS : ∀ b, v.ownBlock = some b → b ∉ S) : w'.ownsRow base e size v n xs := by
  refine ⟨h.1, ?_⟩
  rcases h.2 with hn | ⟨g, cap, cur, rfl, hb, hgg, rest⟩
  · exact .inl hn
  · exact .inr ⟨g, cap, cur, rfl, hb, k.blk hgg (hS g rfl), rest⟩
theorem ownsRow_lower {w : World} {base base' : Nat} {e : TypeId} {size : Nat} {v : Value} {n : Nat} {xs : List Value} (h : w.ownsRow base e size v n xs) (hb : base' ≤ base) : w.ownsRow base' e size v n xs := by
  refine ⟨h.1, ?_⟩
  rcases h.2 with hn | ⟨g, cap, cur, rfl, hbb, rest⟩
  · exact .inl hn
  · exact .inr ⟨g, cap, cur, rfl, by omega, rest⟩
theorem Own.keep {S : List Nat} {w w' : World} {base : Nat} {v : Value} {l : Sps} (h : Own w base v l) (k : Kp S w w') (hS : ∀ b, v.ownBlock = some b → b ∉ S) : Own w' base v l := ownsRow_keep h k hS
theorem Own.low {w : World} {base base' : Nat} {v : Value} {l : Sps} (h : Own w base v l) (hb : base' ≤ base) : Own w base' v l := ownsRow_lower h hb
theorem Own.nil (w : World) (base : Nat) : Own w base (.slice none 0 0) [] := World.ownsRow_nil _ _ _ _
theorem Own.lt {w : World} {base : Nat} {v : Value} {l : Sps} (h : Own w base v l) : ∀ b, v.ownBlock = some b → base ≤ b ∧ b < w.heap.size := World.ownsRow.lt h
theorem Own.cell {w : World} {base g n cap : Nat} {l : Sps} (h : Own w base (.slice (some ⟨g, 0, none⟩) n cap) l) (hn : n = l.length) (i : Nat) (hi : i < l.length) :
    w.cell? ⟨g, i * 2, none⟩ = some (.int .i64 (fr l i)) ∧ w.cell? ⟨g, i * 2 + 1, none⟩ = some (.int .i64 (ct l i)) := by
  subst hn
  have h2 := flat_get l i hi
  exact ⟨by rw [World.ownsRow.cellAt h _ (by omega)]; exact h2.1, by rw [World.ownsRow.cellAt h _ (by omega)]; exact h2.2⟩
theorem Own.cases {w : World} {base : Nat} {v : Value} {l : Sps} (h : Own w base v l) : (v = .slice none 0 0 ∧ l = []) ∨ ∃ g cap, v = .slice (some ⟨g, 0, none⟩) l.length cap ∧ base ≤ g ∧ g < w.heap.size ∧ l.length ≤ cap ∧ cap ≤ maxLen := by
  rcases h.2 with ⟨h1, h2⟩ | ⟨g, cap, cur, h1, h2, h3, h4, h5, _⟩
  · exact .inl ⟨h1, List.eq_nil_of_length_eq_zero h2⟩
  · exact .inr ⟨g, cap, h1, h2, blk_lt h3, h4, h5⟩
theorem Tryd.info_span : (Tryd.prog.info? 63).map (fun i => (i.zero, i.size, i.bytes)) = some (some (.agg #[.int .i64 0, .int .i64 0]), 2, 16) := by kernel_rfl
/-- append of one span to a slice of the call's own. -/
theorem app_span {ops : Array Oper} {rest : List Oper} {o : Oper} {a : Act} {Q : Exit → Act → World → Prop} {w : World} (hgd : o.guard = none) (s x : Operand)
    (ho : o.op = .call { callee := .builtin .append, args := #[s, x], argTypes := #[36, 36] }) (base : Nat) (v : Value) (l : Sps) (hs : a.eval s = v) (hown : Own w base v l)
    (g : Nat) (f c : Int) (fz : Nat × Nat) (hx : a.eval x = .slice (some ⟨g, 0, none⟩) 1 1) (hc : w.heap[g]? = some (.cells #[.int .i64 f, .int .i64 c] 63 fz)) (hlen : l.length ≤ 1099511627776) (hbase : base ≤ w.heap.size)
    (h : ∀ v' w', Own w' base v' (l ++ [(f, c)]) → w.grownBy w' v.ownBlock → wpList Tryd.prog ops Q rest (a.put o.dst v') w') : wpList Tryd.prog ops Q (o :: rest) a w := by
  obtain ⟨i0, hi0, hz0, hz1, hz2⟩ := info_parts Tryd.info_span
  refine wpList_append_own w hgd s x 36 ho base 63 i0 (.agg #[.int .i64 0, .int .i64 0]) 2 16 Tryd.underlying36 hi0 hz0 hz1 hz2 rfl (by decide) v l.length (flat l) hs hown
    ⟨g, 0, none⟩ 1 1 [.int .i64 f, .int .i64 c] hx rfl ?_ ?_ (by unfold maxLen; omega) (by omega) hbase ?_
  · intro j u hj
    match j, hj with
    | 0, hj => simp at hj; subst hj; simp [Addr.add, blk_cell hc]
    | 1, hj => simp at hj; subst hj; simp [Addr.add, blk_cell hc]
  · intro u hu; simp at hu; rcases hu with rfl | rfl <;> rfl
  · intro v' w' h1 h2 _
    refine h v' w' ?_ h2
    unfold Own
    rw [flat_append, List.length_append]
    exact h1
/-- What the own slice's store into its last count leaves. -/
theorem Own.raise {w : World} {base g n cap : Nat} {l : Sps} {f c : Int} (h : Own w base (.slice (some ⟨g, 0, none⟩) n cap) (l ++ [(f, c)])) (hn : n = l.length + 1) {m c2 : Int} (hm : m = c2) :
    Own (w.setCell ⟨g, l.length * 2 + 1, none⟩ (.int .i64 m)) base (.slice (some ⟨g, 0, none⟩) n cap) (l ++ [(f, c2)]) := by
  subst hn; subst hm
  have e : (l ++ [(f, c)]).length = l.length + 1 := by simp
  have e2 : (l ++ [(f, m)]).length = l.length + 1 := by simp
  unfold Own at h ⊢
  rw [e] at h
  rw [e2, ← flat_raise l f c]
  exact (World.ownsRow.stored h _ _).1
theorem Own.free {w : World} {base g n cap : Nat} {l : Sps} (h : Own w base (.slice (some ⟨g, 0, none⟩) n cap) l) (j : Nat) : w.frozen? ⟨g, j, none⟩ = false := by
  rcases h.2 with ⟨h', _⟩ | ⟨g', cap', cur, h', _, hg, _⟩
  · simp at h'
  · simp only [Value.slice.injEq, Option.some.injEq, Addr.mk.injEq, and_true] at h'
    obtain ⟨rfl, _⟩ := h'
    exact blk_free hg j
theorem Own.lit {w : World} {g base : Nat} (hg : w.heap.size = g) (hb : base ≤ g) (f c : Int) : Own (w.alloc (.cells #[.int .i64 f, .int .i64 c] 63)) base (.slice (some ⟨g, 0, none⟩) 1 1) [(f, c)] := by
  subst hg
  exact World.ownsRow_lit w #[.int .i64 f, .int .i64 c] 1 hb (by unfold maxLen; omega) rfl
/-- A slice of spans that is read. -/
def RdS (w : World) (v : Value) (l : Sps) : Prop :=
  ∃ a cap, v = .slice a l.length cap ∧ (l = [] ∨ ∃ g, a = some ⟨g, 0, none⟩ ∧ ∀ i, i < l.length → w.cell? ⟨g, i * 2, none⟩ = some (.int .i64 (fr l i)) ∧ w.cell? ⟨g, i * 2 + 1, none⟩ = some (.int .i64 (ct l i)))
theorem Own.rd {w : World} {base : Nat} {v : Value} {l : Sps} (h : Own w base v l) : RdS w v l := by
  rcases h.cases with ⟨rfl, rfl⟩ | ⟨g, cap, rfl, _⟩
  · exact ⟨_, _, rfl, .inl rfl⟩
  · exact ⟨_, _, rfl, .inr ⟨g, rfl, fun i hi => h.cell rfl i hi⟩⟩
theorem RdS.nil (w : World) : RdS w (.slice none 0 0) [] := ⟨_, _, rfl, .inl rfl⟩
theorem RdS.keep {S : List Nat} {w w' : World} {v : Value} {l : Sps} (h : RdS w v l) (k : Kp S w w') (hS : ∀ b, v.ownBlock = some b → b ∉ S) : RdS w' v l := by
  obtain ⟨a, cap, rfl, h | ⟨g, rfl, h⟩⟩ := h
  · exact ⟨_, _, rfl, .inl h⟩
  · exact ⟨_, _, rfl, .inr ⟨g, rfl, fun i hi => ⟨k.cell (h i hi).1 (hS _ rfl), k.cell (h i hi).2 (hS _ rfl)⟩⟩⟩
theorem fr_last (l : Sps) (f c : Int) : fr (l ++ [(f, c)]) l.length = f := by simp [fr]
theorem ct_last (l : Sps) (f c : Int) : ct (l ++ [(f, c)]) l.length = c := by simp [ct]
end Go.Proofs.YtoghdhjeopcjkaaDoor
