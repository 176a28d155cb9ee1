
/- append to a slice of the call's own, of whatever element type: what it owns behind it, and in which block. Conditions: those of the law. -/
import Derived.Test.YtoghdhjeopcjkaaDoorSpan
namespace Go.Proofs.YtoghdhjeopcjkaaDoor
open Go.RowKit

/-- The cells that a slice's source has. -/
def Src (w : World) (v : Value) (m : Nat) (news : List Value) : Prop :=
  ∃ ao c, v = .slice ao m c ∧ ((ao = none ∧ m = 0 ∧ c = 0 ∧ news = []) ∨ ∃ g o, ao = some ⟨g, o, none⟩ ∧ ∀ j u, news[j]? = some u → w.cell? ⟨g, o + j, none⟩ = some u)

theorem run_append_where {P : Program} (w : World) (base : Nat) (t ty e : TypeId) (i : TypeInfo) (z : Value) (size bytes : Nat) (ht : P.underlying t = some (.slice e)) (hi : P.info? e = some i) (hz : i.zero = some z)
    (hsize : i.size = size) (hby : i.bytes = bytes) (hzs : z.cells.size = size) (hsz : 0 < size)
    (v : Value) (n : Nat) (xs : List Value) (hown : w.ownsRow base e size v n xs)
    (x : Value) (m : Nat) (news : List Value) (hx : Src w x m news) (hl : news.length = m * size) (h1 : ∀ u ∈ news, u.oneCell' = true)
    (h63 : n + m ≤ maxLen) (hbytes : (n + m) * bytes ≤ 140737488355328) (hbase : base ≤ w.heap.size) :
    ∃ v' w', (Builtin.append_ #[t, t] ty #[v, x]).run P w = .ok v' w' ∧ w'.ownsRow base e size v' (n + m) (xs ++ news) ∧ w.grownBy w' v.ownBlock ∧
      (v'.ownBlock = v.ownBlock ∨ v'.ownBlock = some w.heap.size) := by
  obtain ⟨ao, c, rfl, ⟨rfl, rfl, rfl, rfl⟩ | ⟨g, o, rfl, hcell⟩⟩ := hx
  · exact ⟨v, w, run_append_owned_none w base t ty e i size ht hi v n xs hown, by simpa using hown, World.grownBy.refl _ _, .inl rfl⟩
  have hnews : ∀ j u, news[j]? = some u → w.cell? ((⟨g, o, none⟩ : Addr).add j) = some u := by
    intro j u hu
    have h2 := hcell j u hu
    have e2 : (⟨g, o, none⟩ : Addr).add j = ⟨g, o + j, none⟩ := by unfold Addr.add; split <;> simp_all
    rw [e2]; exact h2
  obtain ⟨v', w', hr, h2, h3, h4⟩ := run_append_own (P := P) w base t ty e i z size bytes ht hi hz hsize hby hzs hsz v n xs hown ⟨g, o, none⟩ m c news hl hnews h1 h63 hbytes hbase
  refine ⟨v', w', hr, h2, h3, ?_⟩
  subst hsize; subst hby
  have hsmall : n + m ≤ 9223372036854775807 := by simp only [maxLen] at h63; omega
  rcases hown.2 with ⟨rfl, rfl⟩ | ⟨g2, cap, cur, rfl, hbg, hg, hnc, hcm, hcs, htake⟩
  · by_cases hm : m = 0
    · subst hm
      have : v' = .slice none 0 0 := h4.2 ⟨rfl, rfl⟩
      subst this
      exact .inl rfl
    · have hr2 := run_append_nil (P := P) w t ty e i z ht hi hz ⟨g, o, none⟩ m c news hl hnews (by omega) (by omega) (by have hb := hbytes; simp only [Nat.zero_add] at hb; omega)
      rw [hr] at hr2
      injection hr2 with h5 h6
      subst h5
      exact .inr rfl
  · by_cases hroom : n + m ≤ cap
    · have hfit : n * i.size + news.length ≤ cur.size := by rw [hl, hcs, ← Nat.add_mul]; exact Nat.mul_le_mul_right _ hroom
      have hr2 := run_append_room (P := P) w t ty e i ht hi g2 n cap cur hg ⟨g, o, none⟩ m c news hl hnews h1 hroom hfit
      rw [hr] at hr2
      injection hr2 with h5 h6
      subst h5
      exact .inl rfl
    · have holds : ∀ j u, xs[j]? = some u → w.cell? ((⟨g2, 0, none⟩ : Addr).add j) = some u := hown.cells (g := g2) rfl
      have hr2 := run_append_grow (P := P) w t ty e i z ht hi hz ⟨g2, 0, none⟩ n cap xs hown.1 holds ⟨g, o, none⟩ m c news hl hnews (by omega) (by omega) (growslice_fits (by omega) hbytes)
      rw [hr] at hr2
      injection hr2 with h5 h6
      subst h5
      exact .inr rfl

theorem wpl_append {P : Program} (w : World) {ops : Array Oper} {rest : List Oper} {o : Oper} {a : Act} {Q : Exit → Act → World → Prop} (hgd : o.guard = none) (s x : Operand) (t : TypeId)
    (ho : o.op = .call { callee := .builtin .append, args := #[s, x], argTypes := #[t, t] })
    (base : Nat) (e : TypeId) (i : TypeInfo) (z : Value) (size bytes : Nat) (ht : P.underlying t = some (.slice e)) (hi : P.info? e = some i) (hz : i.zero = some z)
    (hsize : i.size = size) (hby : i.bytes = bytes) (hzs : z.cells.size = size) (hsz : 0 < size)
    (v : Value) (n : Nat) (xs : List Value) (hs : a.eval s = v) (hown : w.ownsRow base e size v n xs)
    (xv : Value) (m : Nat) (news : List Value) (hxv : a.eval x = xv) (hx : Src w xv m news) (hl : news.length = m * size) (h1 : ∀ u ∈ news, u.oneCell' = true)
    (h63 : n + m ≤ maxLen) (hbytes : (n + m) * bytes ≤ 140737488355328) (hbase : base ≤ w.heap.size)
    (h : ∀ v' w', w'.ownsRow base e size v' (n + m) (xs ++ news) → w.grownBy w' v.ownBlock → (v'.ownBlock = v.ownBlock ∨ v'.ownBlock = some w.heap.size) → wpList P ops Q rest (a.put o.dst v') w') : wpList P ops Q (o :: rest) a w := by
  refine wpList_plain hgd fun _ hK => ?_
  obtain ⟨v', w', hr, h2, h3, h4⟩ := run_append_where (P := P) w base t o.type e i z size bytes ht hi hz hsize hby hzs hsz v n xs hown xv m news hx hl h1 h63 hbytes hbase
  unfold Oper.wp execOp
  simp only [ho, resolve, invoke, builtin, Sem.run_bind, Sem.run_pure, Result.andThen_ok, List.map_toArray, List.map_cons, List.map_nil, hs, hxv, hr]
  exact hK _ _ (h v' w' h2 h3 h4)

theorem src_one {w : World} {g : Nat} {f c : Int} {T : TypeId} {fz : Nat × Nat} (hc : w.heap[g]? = some (.cells #[.int .i64 f, .int .i64 c] T fz)) : Src w (.slice (some ⟨g, 0, none⟩) 1 1) 1 [.int .i64 f, .int .i64 c] := by
  refine ⟨_, _, rfl, .inr ⟨g, 0, rfl, fun j u hj => ?_⟩⟩
  match j, hj with
  | 0, hj => simp at hj; subst hj; simp [blk_cell hc]
  | 1, hj => simp at hj; subst hj; simp [blk_cell hc]
/-- append of one span. -/
theorem app_span2 {ops : Array Oper} {rest : List Oper} {o : Oper} {a : Act} {Q : Exit → Act → World → Prop} {w : World} (hgd : o.guard = none) (s x : Operand)
    (ho : o.op = .call { callee := .builtin .append, args := #[s, x], argTypes := #[36, 36] }) (base : Nat) (v : Value) (l : Sps) (hs : a.eval s = v) (hown : Own w base v l)
    (g : Nat) (f c : Int) (fz : Nat × Nat) (hx : a.eval x = .slice (some ⟨g, 0, none⟩) 1 1) (hc : w.heap[g]? = some (.cells #[.int .i64 f, .int .i64 c] 63 fz)) (hlen : l.length ≤ 1099511627776) (hbase : base ≤ w.heap.size)
    (h : ∀ v' w', Own w' base v' (l ++ [(f, c)]) → w.grownBy w' v.ownBlock → (v'.ownBlock = v.ownBlock ∨ v'.ownBlock = some w.heap.size) → wpList Tryd.prog ops Q rest (a.put o.dst v') w') : wpList Tryd.prog ops Q (o :: rest) a w := by
  obtain ⟨i0, hi0, hz0, hz1, hz2⟩ := info_parts Tryd.info_span
  refine wpl_append w hgd s x 36 ho base 63 i0 (.agg #[.int .i64 0, .int .i64 0]) 2 16 Tryd.underlying36 hi0 hz0 hz1 hz2 rfl (by decide) v l.length (flat l) hs hown
    _ 1 [.int .i64 f, .int .i64 c] hx (src_one hc) rfl ?_ (by unfold maxLen; omega) (by omega) hbase ?_
  · intro u hu; simp at hu; rcases hu with rfl | rfl <;> rfl
  · intro v' w' h1 h2 h3
    refine h v' w' ?_ h2 h3
    unfold Own
    rw [flat_append, List.length_append]
    exact h1
end Go.Proofs.YtoghdhjeopcjkaaDoor
