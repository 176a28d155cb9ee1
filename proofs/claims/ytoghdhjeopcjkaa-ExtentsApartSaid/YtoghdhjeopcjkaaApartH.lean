/- Pieces of the law ExtentsApart: a move cut out of the moves, a row of marks copied. Conditions: those of each lemma. -/
import Derived.Test.YtoghdhjeopcjkaaCopyP
import Derived.Test.YtoghdhjeopcjkaaMoves
import Derived.Test.YtoghdhjeopcjkaaFreshH
import Derived.Laws.CopyOwn
namespace Go.Proofs.Ytoghdhjeopcjkaa
open Go.ChangeShapes Go.WideShapes Go.ChangeAt Go.RowKit Go.Deep

theorem alk2 (w : World) (o o' : Obj) : Kp [] w ((w.alloc o).alloc o') := ((Kp.refl _ _).alloc _).alloc _
theorem cells6 {w : World} {b : Nat} {x0 x1 x2 x3 x4 x5 : Value} {T : TypeId} {fr : Nat × Nat} (h : w.heap[b]? = some (.cells #[x0, x1, x2, x3, x4, x5] T fr)) :
    w.cell? ⟨b, 0, none⟩ = some x0 ∧ w.cell? ⟨b, 2, none⟩ = some x2 ∧ w.cell? ⟨b, 3, none⟩ = some x3 ∧ w.cell? ⟨b, 4, none⟩ = some x4 ∧ w.cell? ⟨b, 5, none⟩ = some x5 := by
  simp [World.cell?, h]
theorem Try.elem_moves : Try.prog.underlying 37 = some (.slice (Try.prog.elem 37)) := by kernel_rfl
theorem Try.size_moves (w : World) : (sizeOf (Try.prog.elem 37)).run Try.prog w = .ok 3 w := by kernel_rfl
/-- more[i:i+1] -/
theorem cut_move {a : Option Addr} {cap : Nat} {l : List Mv} (hc : l.length ≤ cap) (i : Nat) (hi : i < l.length) :
    ∃ s, (∀ W, (Instr.slice 37 (.slice a l.length cap) (some (.int .i64 (i : Int))) (some (.int .i64 ((i : Int) + 1))) none).run Try.prog W = .ok s W) ∧
      (∀ W, RdM W (.slice a l.length cap) l → RdM W s [l[i]]) ∧ (∀ W, RdM W (.slice a l.length cap) l → ∀ x, s.ownBlock = some x → Value.ownBlock (.slice a l.length cap) = some x) := by
  refine ⟨sliced a i (i + 1) cap 3, ?_, ?_, ?_⟩
  · intro W
    rw [run_slice_lh W _ a _ cap Try.elem_moves .i64 .i64 i ((i : Int) + 1) (by omega) (by omega) (by omega)]
    simp only [Try.size_moves, Result.andThen_ok, Int.toNat_natCast]
    rw [show ((i : Int) + 1).toNat = i + 1 by omega]
  · intro W h
    obtain ⟨a', c', e1, h⟩ := h
    injection e1 with e2 e3 e4
    subst e2; subst e4
    rcases h with hnil | ⟨g, o, rfl, h⟩
    · subst hnil; simp at hi
    · have h1 := h i hi
      have e5 : mvb [l[i]] 0 = mvb l i ∧ mvn [l[i]] 0 = mvn l i ∧ mvm [l[i]] 0 = mvm l i := by simp [mvb, mvn, mvm, hi]
      refine ⟨some ⟨g, o + i * 3, none⟩, cap - i, ?_, .inr ⟨g, o + i * 3, rfl, fun j hj => ?_⟩⟩
      · have : ¬ cap = i := by omega
        simp only [sliced, if_neg this, Option.map_some, List.length_singleton]
        rw [show i + 1 - i = 1 by omega, add_plain]
      · simp at hj
        subst hj
        rw [e5.1, e5.2.1, e5.2.2]
        simpa using h1
  · intro W h x hx
    obtain ⟨a', c', e1, h⟩ := h
    injection e1 with e2 e3 e4
    subst e2; subst e4
    rcases h with hnil | ⟨g, o, rfl, h⟩
    · subst hnil; simp at hi
    · have : ¬ cap = i := by omega
      simp only [sliced, if_neg this, Option.map_some] at hx
      rw [add_plain] at hx
      exact hx
set_option maxRecDepth 100000 in
/-- copy of one whole row of marks over another. -/
theorem step_copy_bools {ops : Array Oper} {o : Oper} {a : Act} {w : World} {K : Act → World → Prop} {Q : Exit → Act → World → Prop} {E : Prop} (hgd : o.guard = none) (d s : Operand)
    (ho : o.op = .call { callee := .builtin .copy, args := #[d, s], argTypes := #[40, 40] }) (n g : Nat) (cur : Array Value) (hd : a.eval d = .slice (some ⟨g, 0, none⟩) n n) (sg : Nat) (hs : a.eval s = .slice (some ⟨sg, 0, none⟩) n n)
    (hg : w.heap[g]? = some (.cells cur 4 (0, 0))) (hcs : cur.size = n) (held : Nat → Bool) (hsrc : ∀ j, j < n → w.cell? ⟨sg, j, none⟩ = some (.bool (held j)))
    (h : ∀ w' m, (∃ c : Array Value, w'.heap[g]? = some (.cells c 4 (0, 0)) ∧ ∀ i, i < n → c[i]? = some (.bool (held i))) → Kp [g] w w' → K (a.put o.dst m) w') :
    if Region.wanted o (yielded ops a.tmps) = true then Oper.wp Try.prog o a w K Q else E := by
  have hw : Region.wanted o (yielded ops a.tmps) = true := by simp [Region.wanted, hgd]
  rw [if_pos hw]
  obtain ⟨cs, hcse⟩ : ∃ cs : List Value, cs = (List.range n).map fun (i : Nat) => Value.bool (held i) := ⟨_, rfl⟩
  have hcl : cs.length = n := by rw [hcse]; simp
  have hcg : ∀ j, j < n → cs[j]? = some (.bool (held j)) := fun j hj => by rw [hcse]; simp [hj]
  have hsz : (Try.prog.info? 4).map (·.size) = some 1 := by kernel_rfl
  have hrun := run_copy_row (P := Try.prog) w 40 40 o.type 4 g 0 n n ⟨sg, 0, none⟩ n n cur 4 cs Try.underlying40 hsz hg (by rw [hcl]; simp)
    (fun j v hj => by
      have hjn : j < n := by have := (List.getElem?_eq_some_iff.1 hj).1; omega
      rw [hcg j hjn] at hj
      injection hj with hj
      subst hj
      have e : (⟨sg, 0, none⟩ : Addr).add j = ⟨sg, j, none⟩ := by unfold Addr.add; split <;> simp_all
      rw [e]; exact hsrc j hjn)
    (by omega) (fun v hv => by rw [hcse] at hv; simp at hv; obtain ⟨i, _, rfl⟩ := hv; rfl)
  unfold Oper.wp
  simp [execOp, ho, resolve, invoke, builtin, hd, hs, hrun, Result.andThen]
  refine h _ _ ⟨_, setRow_heap w g _ _ _ _ hg, fun i hi => ?_⟩ ⟨rfl, rfl, rfl, by simp [World.setRow], fun k _ hk => setRow_other w g k _ (by simpa using hk)⟩
  rw [List.getElem?_toArray, List.getElem?_append_left (by omega)]
  exact hcg i hi
set_option maxRecDepth 100000 in
theorem open_moves2 {H : Type} {enc : TypeId × Value → H} {W : World} {r : Reach} {base : Nat} {v : Value} {d : DataW H} {p : List MemPlace} (hval : Value.okWide Try.prog W r base 37 v)
    (h : DataW.Trod enc Try.prog W 0 (fun _ => true) true 37 v d p) :
    ∃ l : List Mv, RdM W v l ∧ (∀ x, v.ownBlock = some x → x < W.heap.size) ∧ l.length ≤ 9223372036854775807 ∧ ∃ a cap, v = .slice a l.length cap ∧ l.length ≤ cap := by
  obtain ⟨l, h1, h2, h3⟩ := open_moves hval h
  refine ⟨l, h1, h2, h3, ?_⟩
  obtain ⟨a, cap, rfl, _⟩ := h1
  refine ⟨a, cap, rfl, ?_⟩
  cases a with
  | none =>
    simp only [Value.okWide, Try.underlying37, Cell.okWide, Cell.ok] at hval
    cases hl : l.length with
    | zero => exact Nat.zero_le _
    | succ n => rw [hl] at hval; exact False.elim hval
  | some ad =>
    simp only [Value.okWide, Try.underlying37, Cell.okWide, Cell.ok] at hval
    exact hval.1
end Go.Proofs.Ytoghdhjeopcjkaa
