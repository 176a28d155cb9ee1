
/- The walks of the laws' spoil and spoilt. Conditions: the list is the call's own. -/
import Derived.Test.YtoghdhjeopcjkaaDoorKq
import Derived.Test.YtoghdhjeopcjkaaDoorHelp
import Derived.Test.YtoghdhjeopcjkaaDoorSlS
namespace Go.Proofs.YtoghdhjeopcjkaaDoor
open Go.RowKit

/-- A list of n spans, each a mark of its own. -/
def spo (mark : Int) (n : Nat) : Sps := (List.range n).map fun (i : Nat) => (mark, -(i : Int))
theorem spo_length (mark : Int) (n : Nat) : (spo mark n).length = n := by simp [spo]
theorem spo_get (mark : Int) (n i : Nat) (h : i < n) : (spo mark n)[i]? = some (mark, -(i : Int)) := by simp [spo, h]
/-- The first k written, the others as they were. -/
def spoTo (mark : Int) (l : Sps) (k : Nat) : Sps := spo mark k ++ l.drop k
theorem spoTo_zero (mark : Int) (l : Sps) : spoTo mark l 0 = l := by simp [spoTo, spo]
theorem spoTo_length (mark : Int) (l : Sps) (k : Nat) (h : k ≤ l.length) : (spoTo mark l k).length = l.length := by simp [spoTo, spo_length]; omega
theorem spoTo_all (mark : Int) (l : Sps) : spoTo mark l l.length = spo mark l.length := by simp [spoTo]
theorem spo_succ (mark : Int) (k : Nat) : spo mark (k + 1) = spo mark k ++ [(mark, -(k : Int))] := by simp [spo, List.range_succ]
theorem spoTo_succ (mark : Int) (l : Sps) (k : Nat) (h : k < l.length) : spoTo mark l (k + 1) = (spoTo mark l k).set k (mark, -(k : Int)) := by
  simp only [spoTo, spo_succ]
  rw [List.set_append_right _ _ (by rw [spo_length]; omega), spo_length, Nat.sub_self, List.drop_eq_getElem_cons h, List.set_cons_zero, List.append_assoc]
  rfl
theorem flat_set (l : Sps) (k : Nat) (f c : Int) : ((flat l).set (k * 2) (.int .i64 f)).set (k * 2 + 1) (.int .i64 c) = flat (l.set k (f, c)) := by
  induction l generalizing k with
  | nil => simp [flat]
  | cons x l ih =>
    cases k with
    | zero => simp [flat]
    | succ k =>
      have := ih k
      rw [show (k + 1) * 2 = k * 2 + 1 + 1 by omega]
      simpa [flat] using this
/-- What a store of one span into an own list leaves. -/
theorem Own.put {w : World} {base g n cap : Nat} {l : Sps} (h : Own w base (.slice (some ⟨g, 0, none⟩) n cap) l) (hn : n = l.length) {k : Nat} {f c : Int} :
    Own ((w.setCell ⟨g, k * 2, none⟩ (.int .i64 f)).setCell ⟨g, k * 2 + 1, none⟩ (.int .i64 c)) base (.slice (some ⟨g, 0, none⟩) n cap) (l.set k (f, c)) := by
  subst hn
  unfold Own at h ⊢
  rw [← flat_set, List.length_set]
  exact (World.ownsRow.stored (World.ownsRow.stored h _ _).1 _ _).1
theorem own_prefix {w : World} {base g n cap : Nat} {l m : Sps} (h : Own w base (.slice (some ⟨g, 0, none⟩) n cap) (l ++ m)) (hn : n = (l ++ m).length) (cap' : Nat) : RdS w (.slice (some ⟨g, 0, none⟩) l.length cap') l := by
  refine ⟨_, _, rfl, .inr ⟨g, rfl, fun i hi => ?_⟩⟩
  have := h.cell hn i (by simp; omega)
  have e1 : fr (l ++ m) i = fr l i := by simp only [fr]; rw [List.getElem?_append_left hi]
  have e2 : ct (l ++ m) i = ct l i := by simp only [ct]; rw [List.getElem?_append_left hi]
  rwa [e1, e2] at this

theorem grown_alloc (w : World) (o : Obj) : w.grownBy (w.drew.alloc o) none :=
  ⟨rfl, rfl, rfl, by simp, fun k hk _ => by rw [Below.heap_alloc _ _ _ (by simpa using hk)]; rfl⟩
/-- append of one span: where the new list lies, and what happens to the old one. -/
theorem run_app_one {w : World} {base : Nat} {v : Value} {l : Sps} (ty : TypeId) (hown : Own w base v l) (g : Nat) (f c : Int) (fz : Nat × Nat) (hc : w.heap[g]? = some (.cells #[.int .i64 f, .int .i64 c] 63 fz)) (hlen : l.length ≤ 1099511627776) (hbase : base ≤ w.heap.size) :
    ∃ v' w', (Builtin.append_ #[36, 36] ty #[v, .slice (some ⟨g, 0, none⟩) 1 1]).run Tryd.prog w = .ok v' w' ∧ Own w' base v' (l ++ [(f, c)]) ∧ w.grownBy w' v.ownBlock ∧
      ((∃ g' cap, v = .slice (some ⟨g', 0, none⟩) l.length cap ∧ v' = .slice (some ⟨g', 0, none⟩) (l.length + 1) cap) ∨ (v'.ownBlock = some w.heap.size ∧ w.grownBy w' none)) := by
  obtain ⟨i, hi, hz, hsize, hby⟩ := info_parts Tryd.info_span
  have ht := Tryd.underlying36
  have hnews : ∀ j u, [Value.int .i64 f, Value.int .i64 c][j]? = some u → w.cell? ((⟨g, 0, none⟩ : Addr).add j) = some u := by
    intro j u hj
    match j, hj with
    | 0, hj => simp at hj; subst hj; simp [Addr.add, blk_cell hc]
    | 1, hj => simp at hj; subst hj; simp [Addr.add, blk_cell hc]
  have h1 : ∀ u ∈ [Value.int .i64 f, Value.int .i64 c], u.oneCell' = true := by intro u hu; simp at hu; rcases hu with rfl | rfl <;> rfl
  have hl : [Value.int .i64 f, Value.int .i64 c].length = 1 * i.size := by rw [hsize]; rfl
  have hl2 : [Value.int .i64 f, Value.int .i64 c].length = 1 * 2 := rfl
  have hown' := hown
  unfold Own at hown'
  obtain ⟨v', w', hr, h2, h3, _⟩ := run_append_own (P := Tryd.prog) w base 36 ty 63 i (.agg #[.int .i64 0, .int .i64 0]) 2 16 ht hi hz hsize hby rfl (by decide) v l.length (flat l) hown' ⟨g, 0, none⟩ 1 1 _ hl2 hnews h1 (by unfold maxLen; omega) (by omega) hbase
  refine ⟨v', w', hr, by unfold Own; rw [flat_append, List.length_append]; exact h2, h3, ?_⟩
  rcases hown'.2 with ⟨rfl, h0⟩ | ⟨g2, cap, cur, rfl, hbg, hg, hnc, hcm, hcs, htake⟩
  · rw [List.eq_nil_of_length_eq_zero h0] at *
    have hr2 := run_append_nil (P := Tryd.prog) w 36 ty 63 i _ ht hi hz ⟨g, 0, none⟩ 1 1 _ hl hnews (by omega) (by omega) (by rw [hby]; omega)
    rw [hr] at hr2
    injection hr2 with h5 h6
    subst h5; subst h6
    exact .inr ⟨rfl, grown_alloc _ _⟩
  · by_cases hroom : l.length + 1 ≤ cap
    · have hfit : l.length * i.size + [Value.int .i64 f, Value.int .i64 c].length ≤ cur.size := by rw [hl, hcs, hsize, ← Nat.add_mul]; exact Nat.mul_le_mul_right _ hroom
      have hr2 := run_append_room (P := Tryd.prog) w 36 ty 63 i ht hi g2 l.length cap cur hg ⟨g, 0, none⟩ 1 1 _ hl hnews h1 hroom hfit
      rw [hr] at hr2
      injection hr2 with h5 h6
      subst h5
      exact .inl ⟨g2, cap, rfl, rfl⟩
    · have holds : ∀ j u, (flat l)[j]? = some u → w.cell? ((⟨g2, 0, none⟩ : Addr).add j) = some u := hown'.cells (g := g2) rfl
      have hr2 := run_append_grow (P := Tryd.prog) w 36 ty 63 i _ ht hi hz ⟨g2, 0, none⟩ l.length cap (flat l) (by rw [hsize]; exact hown'.1) holds ⟨g, 0, none⟩ 1 1 _ hl hnews (by omega) (by omega) (by rw [hby]; exact growslice_fits (by omega) (by omega))
      rw [hr] at hr2
      injection hr2 with h5 h6
      subst h5; subst h6
      exact .inr ⟨rfl, grown_alloc _ _⟩
theorem app_one {ops : Array Oper} {rest : List Oper} {o : Oper} {a : Act} {Q : Exit → Act → World → Prop} {w : World} (hgd : o.guard = none) (s x : Operand)
    (ho : o.op = .call { callee := .builtin .append, args := #[s, x], argTypes := #[36, 36] }) (base : Nat) (v : Value) (l : Sps) (hs : a.eval s = v) (hown : Own w base v l)
    (g : Nat) (f c : Int) (fz : Nat × Nat) (hx : a.eval x = .slice (some ⟨g, 0, none⟩) 1 1) (hc : w.heap[g]? = some (.cells #[.int .i64 f, .int .i64 c] 63 fz)) (hlen : l.length ≤ 1099511627776) (hbase : base ≤ w.heap.size)
    (h : ∀ v' w', Own w' base v' (l ++ [(f, c)]) → w.grownBy w' v.ownBlock →
      ((∃ g' cap, v = .slice (some ⟨g', 0, none⟩) l.length cap ∧ v' = .slice (some ⟨g', 0, none⟩) (l.length + 1) cap) ∨ (v'.ownBlock = some w.heap.size ∧ w.grownBy w' none)) → wpList Tryd.prog ops Q rest (a.put o.dst v') w') : wpList Tryd.prog ops Q (o :: rest) a w := by
  refine wpList_plain hgd fun _ hK => ?_
  obtain ⟨v', w', hr, h2, h3, h4⟩ := run_app_one o.type hown g f c fz hc hlen hbase
  unfold Oper.wp execOp
  simp only [ho, resolve, invoke, builtin, Sem.run_bind, Sem.run_pure, Result.andThen_ok, List.map_toArray, List.map_cons, List.map_nil, hs, hx, hr]
  exact hK _ _ (h v' w' h2 h3 h4)

theorem spoil_cell {wr w6 : World} {b : Nat} {x0 x1 x2 : Value} {T : TypeId} {o : Obj} {row : Option Nat} (h : wr.heap[b]? = some (.cells #[x0, x1, x2] T (0, 0))) (hg : (wr.alloc o).grownBy w6 row) (hr : some b ≠ row) :
    w6.heap[b]? = some (.cells #[x0, x1, x2] T (0, 0)) ∧ w6.cell? ⟨b, 0, none⟩ = some x0 ∧ w6.cell? ⟨b, 1, none⟩ = some x1 ∧ w6.cell? ⟨b, 2, none⟩ = some x2 ∧ ∀ i, w6.frozen? ⟨b, i, none⟩ = false := by
  have h6 : w6.heap[b]? = some (.cells #[x0, x1, x2] T (0, 0)) := (hg.block b (by have := blk_lt h; simp; omega) hr).trans (blk_alloc h _)
  exact ⟨h6, by rw [blk_cell h6]; rfl, by rw [blk_cell h6]; rfl, by rw [blk_cell h6]; rfl, fun i => blk_free h6 i⟩
/-- What spoil answers. -/
def SpoilPost (w : World) (v : Value) (n : Nat) (mark : Int) (e : Ending) (w' : World) : Prop :=
  ∃ v2 a2 c2, v2 = .slice a2 (n + 1) c2 ∧ e = .returned (.agg #[v, v2, .int .i64 mark]) ∧ RdS w' v (spo mark n) ∧ RdS w' v2 (spo mark n ++ [(mark, mark)]) ∧ Kq (fun x => v.ownBlock = some x) w w' ∧
    (∀ x, v2.ownBlock = some x → (v.ownBlock = some x ∨ w.heap.size ≤ x) ∧ x < w'.heap.size)
theorem spoil_end {w wr w6 W : World} {base : Nat} {v v2 : Value} {o : Obj} {mark : Int} {n : Nat} (hkW : Kp [w.heap.size] w6 W) (ho : Own wr base v (spo mark n)) (h6 : Own w6 base v2 (spo mark n ++ [(mark, mark)]))
    (hg : (wr.alloc o).grownBy w6 v.ownBlock)
    (hw : (∃ g' cap, v = .slice (some ⟨g', 0, none⟩) (spo mark n).length cap ∧ v2 = .slice (some ⟨g', 0, none⟩) ((spo mark n).length + 1) cap) ∨ (v2.ownBlock = some (wr.alloc o).heap.size ∧ (wr.alloc o).grownBy w6 none))
    (hk : Kq (fun x => v.ownBlock = some x) w wr) (hb : ∀ x, v.ownBlock = some x → x < w.heap.size) : SpoilPost w v n mark (.returned (.agg #[v, v2, .int .i64 mark])) W := by
  have hs1 := hk.size
  have hlt := h6.lt
  have hs6 : wr.heap.size + 1 ≤ w6.heap.size := by have := hg.size; simpa using this
  have hne : ∀ x, v2.ownBlock = some x → x ≠ w.heap.size := by
    intro x hx
    rcases hw with ⟨g', cap, e1, e2⟩ | ⟨e1, _⟩
    · rw [e2] at hx
      have := hb g' (by rw [e1]; rfl)
      simp [Value.ownBlock] at hx
      omega
    · rw [e1] at hx
      simp at hx
      have hz : w.heap.size < wr.heap.size + 1 := by omega
      omega
  obtain ⟨a2, c2, hv2⟩ := h6.form
  have hl2 : (spo mark n ++ [(mark, mark)]).length = n + 1 := by simp [spo_length]
  rw [hl2] at hv2
  refine ⟨v2, a2, c2, hv2, rfl, ?_, ?_, ?_, ?_⟩
  · have h1 : RdS w6 v (spo mark n) := by
      rcases hw with ⟨g', cap, e1, e2⟩ | ⟨_, hg0⟩
      · rw [e2] at h6
        rw [e1]
        exact own_prefix h6 (by simp) cap
      · exact ho.rd.keep (((Kp.refl [] wr).alloc o).grown hg0 (fun x hx => by cases hx)) (by simp)
    exact h1.keep hkW fun x hx => by have := hb x hx; simp; omega
  · exact h6.rd.keep hkW fun x hx => by have := hne x hx; simp; omega
  · have h1 : Kq (fun x => v.ownBlock = some x) wr w6 := by
      refine (Kp.q (((Kp.refl v.ownBlock.toList wr).alloc o).grown hg (fun x hx => .inl (by rw [hx]; simp)))).mono fun x hx => by simpa using hx
    have h2 : Kp [] w6 W → True := fun _ => trivial
    obtain ⟨L, k1, k2⟩ := hk.trans h1
    exact ⟨L, k1, k2.trans hkW (fun x hx => by simp at hx; exact .inr (by omega))⟩
  · intro x hx
    refine ⟨?_, Nat.lt_of_lt_of_le (hlt x hx).2 hkW.size⟩
    rcases hw with ⟨g', cap, e1, e2⟩ | ⟨e1, _⟩
    · left
      rw [e2] at hx
      rw [e1]
      exact hx
    · right
      rw [e1] at hx
      simp at hx
      omega
end Go.Proofs.YtoghdhjeopcjkaaDoor
