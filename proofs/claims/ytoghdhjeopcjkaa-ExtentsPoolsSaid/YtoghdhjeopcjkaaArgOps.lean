/- The script of steps, handed in as an argument: what it reads as. Conditions: it is an argument of the type of a slice of steps, within the reach. -/
import Derived.Test.YtoghdhjeopcjkaaPoolsW
import Derived.Test.YtoghdhjeopcjkaaMoves
import Derived.SizedLaws
namespace Go.Proofs.Ytoghdhjeopcjkaa
open Go.ChangeShapes Go.WideShapes Go.ChangeAt Go.RowKit Go.Deep

/-- append of an empty slice, wherever it points, to nil. -/
theorem wpl_append_emp {P : Program} (w : World) {ops : Array Oper} {rest : List Oper} {o : Oper} {a : Act} {Q : Exit → Act → World → Prop} (hgd : o.guard = none) (s x : Operand) (t : TypeId)
    (ho : o.op = .call { callee := .builtin .append, args := #[s, x], argTypes := #[t, t] })
    (e : TypeId) (i : TypeInfo) (z : Value) (size bytes : Nat) (ht : P.underlying t = some (.slice e)) (hi : P.info? e = some i) (hz : i.zero = some z)
    (hsize : i.size = size) (hby : i.bytes = bytes) (hzs : z.cells.size = size) (hsz : 0 < size)
    (hs : a.eval s = .slice none 0 0) (ad : Addr) (c : Nat) (hxv : a.eval x = .slice (some ad) 0 c)
    (h : ∀ w', w.grownBy w' none → wpList P ops Q rest (a.put o.dst (.slice none 0 0)) w') : wpList P ops Q (o :: rest) a w := by
  refine wpList_plain hgd fun _ hK => ?_
  obtain ⟨v', w', hr, h2, h3, h4⟩ := run_append_own (P := P) (w := w) w.heap.size t o.type e i z size bytes ht hi hz hsize hby hzs hsz (.slice none 0 0) 0 [] (World.ownsRow_nil _ _ _ _) ad 0 c [] (by simp) (by simp) (by simp) (by simp [maxLen]) (by simp) (Nat.le_refl _)
  obtain rfl : v' = .slice none 0 0 := h4.2 ⟨rfl, rfl⟩
  unfold Oper.wp execOp
  simp only [ho, resolve, invoke, builtin, Sem.run_bind, Sem.run_pure, Result.andThen_ok, List.map_toArray, List.map_cons, List.map_nil, hs, hxv, hr]
  exact hK _ _ (h w' h3)
theorem copySpans_emp (w : World) (ad : Addr) (c : Nat) :
    Calls Try.prog 21 #[.slice (some ad) 0 c] w fun e w' => ∃ v', e = .returned v' ∧ Own w' w.heap.size v' [] ∧ Kp [] w w' := by
  obtain ⟨i0, hi0, hz0, hz1, hz2⟩ := info_parts Try.info_span
  go_enter Try.func21, Try.ntmps21
  go_wp2_with (at_builtin; refine wpl_append_emp _ rfl _ _ 33 rfl 31 i0 (.agg #[.int .i64 0, .int .i64 0]) 2 16 Try.underlying33 hi0 hz0 hz1 hz2 rfl (by decide) rfl ad c rfl ?_; intro w1 hgr)
  go_ret
  exact ⟨_, rfl, Own.nil _ _, (Kp.refl [] w).grown hgr (fun k hk => by cases hk)⟩
theorem copyInts_emp (w : World) (ad : Addr) (c : Nat) :
    Calls Try.prog 28 #[.slice (some ad) 0 c] w fun e w' => ∃ v', e = .returned v' ∧ OwnI w' w.heap.size v' [] ∧ Kp [] w w' := by
  obtain ⟨i0, hi0, hz0, hz1, hz2⟩ := info_parts Try.info_int
  go_enter Try.func28, Try.ntmps28
  go_wp2_with (at_builtin; refine wpl_append_emp _ rfl _ _ 49 rfl 3 i0 (.int .i64 0) 1 8 Try.underlying49 hi0 hz0 hz1 hz2 rfl (by decide) rfl ad c rfl ?_; intro w1 hgr)
  go_ret
  exact ⟨_, rfl, World.ownsRow_nil _ _ _ _, (Kp.refl [] w).grown hgr (fun k hk => by cases hk)⟩

def IntsOk (w : World) (v : Value) : Prop := v.oneCell' = true ∧ ∃ l : List Int, l.length ≤ 17592186044416 ∧ RdIO w v l ∧ (l ≠ [] → ∀ b, v.ownBlock = some b → b < w.heap.size) ∧
    (∀ w', Kp [] w w' → Calls Try.prog 28 #[v] w' fun e w'' => ∃ v', e = .returned v' ∧ OwnI w'' w'.heap.size v' l ∧ Kp [] w' w'')
def SpansOk (w : World) (v : Value) : Prop := v.oneCell' = true ∧ ∃ l : Sps, l.length ≤ 8796093022208 ∧ RdSO w v l ∧
    (∀ w', Kp [] w w' → Calls Try.prog 21 #[v] w' fun e w'' => ∃ v', e = .returned v' ∧ Own w'' w'.heap.size v' l ∧ Kp [] w' w'')
theorem bytesInt : Try.prog.bytesOf 3 = 8 := by kernel_rfl
theorem bytesSpan : Try.prog.bytesOf 31 = 16 := by kernel_rfl
theorem reach_eq : reachBytes = 140737488351232 := rfl

set_option maxRecDepth 100000 in
theorem ints_cells {H : Type} {enc : TypeId × Value → H} {W : World} {n : Nat} {cs : List Value} {x : DataW H × List MemPlace} (h : DataW.trod enc Try.prog W 0 (fun _ => true) true n 49 cs = some x)
    (hw : ∀ y ∈ x.1.weights Try.prog 49, y ≤ reachBytes) : ∃ v, cs = [v] ∧ IntsOk W v := by
  rcases open_slice Try.underlying49 h with ⟨rfl, _⟩ | ⟨a, len, cap, m, n', D, Pl, rfl, _, hl, hm, hmm, rfl, hcell⟩
  · exact ⟨_, rfl, rfl, [], by simp, ⟨_, _, rfl, .inl rfl⟩, fun h => absurd rfl h, fun w' _ => copyInts_anyO (l := []) ⟨none, 0, rfl, .inl ⟨rfl, rfl, rfl, rfl⟩⟩ (by simp)⟩
  · simp only [if_true] at hmm
    subst hmm
    have hsz : (len + (m - len)) * 8 ≤ reachBytes := by
      have := hw ((len + (m - len)) * 8) (by simp [DataW.weights, Try.underlying49, bytesInt])
      exact this
    have hr := reach_eq
    have hlen : len ≤ 17592186044416 := by omega
    cases hlz : len with
    | zero =>
      subst hlz
      exact ⟨_, rfl, rfl, [], by simp, ⟨_, _, rfl, .inl rfl⟩, fun h => absurd rfl h, fun w' _ => copyInts_emp w' a _⟩
    | succ len' =>
      rw [← hlz]
      have c1 : Try.prog.cellsOf 3 = 1 := by kernel_rfl
      have each : ∀ i, i < len → ∃ q : Int, W.cell? (a.add i) = some (.int .i64 q) := by
        intro i hi
        obtain ⟨cs', h1, h2⟩ := hcell i (by omega)
        obtain ⟨q, rfl, _, _⟩ := DataW.trod_int Try.underlying3 h2
        rw [c1, Nat.mul_one] at h1
        obtain ⟨_, _, hc⟩ := World.cells?_some h1
        have e0 := hc 0 (by omega)
        rw [add_add] at e0
        exact ⟨q, by simpa using e0⟩
      obtain ⟨q, hq⟩ := choose_lt each
      obtain ⟨g, o, spt⟩ := a
      obtain rfl : spt = none := by
        have := World.cell?_spot (hq 0 (by omega))
        simpa [Addr.add] using this
      have hq' : ∀ i, i < len → W.cell? ⟨g, o + i, none⟩ = some (.int .i64 (q i)) := fun i hi => by have := hq i hi; rwa [add_plain] at this
      have hll : ((List.range len).map q).length = len := by simp
      have hg : ∀ i, i < len → gi ((List.range len).map q) i = q i := fun i hi => by simp [gi, hi]
      have hsrc : Src W (.slice (some ⟨g, o, none⟩) len m) ((List.range len).map q).length (ints ((List.range len).map q)) := by
        rw [hll]
        refine ⟨_, _, rfl, .inr ⟨g, o, rfl, fun j u hj => ?_⟩⟩
        have hjl : j < len := by have := (List.getElem?_eq_some_iff.1 hj).1; simpa [ints] using this
        simp [ints, hjl] at hj
        subst hj
        exact hq' j hjl
      refine ⟨_, rfl, rfl, (List.range len).map q, by rw [hll]; exact hlen, ⟨_, _, by rw [hll], .inr ⟨g, o, rfl, fun i hi => ?_⟩⟩, fun _ b hb => ?_, fun w' k => copyInts_anyO (hsrc.keep k (by simp)) (by rw [hll]; exact hlen)⟩
      · rw [hll] at hi
        rw [hg i hi]; exact hq' i hi
      · simp [Value.ownBlock] at hb
        subst hb
        exact World.block_lt_of_cell? W _ (hq' 0 (by omega))

theorem spanFields : ∃ f0 f1 : Field, Try.prog.underlying 31 = some (.struct #[f0, f1]) ∧ f0.offset = 0 ∧ f1.offset = 1 ∧ f0.type = 3 ∧ f1.type = 3 :=
  ⟨_, _, Try.underlying31, rfl, rfl, rfl, rfl⟩
set_option maxRecDepth 100000 in
theorem spans_cells {H : Type} {enc : TypeId × Value → H} {W : World} {n : Nat} {cs : List Value} {x : DataW H × List MemPlace} (h : DataW.trod enc Try.prog W 0 (fun _ => true) true n 33 cs = some x)
    (hw : ∀ y ∈ x.1.weights Try.prog 33, y ≤ reachBytes) : ∃ v, cs = [v] ∧ SpansOk W v := by
  rcases open_slice Try.underlying33 h with ⟨rfl, _⟩ | ⟨a, len, cap, m, n', D, Pl, rfl, _, hl, hm, hmm, rfl, hcell⟩
  · exact ⟨_, rfl, rfl, [], by simp, ⟨_, _, rfl, .inl rfl⟩, fun w' _ => copySpans_anyO (l := []) ⟨none, 0, rfl, .inl ⟨rfl, rfl, rfl, rfl⟩⟩ (by simp)⟩
  · simp only [if_true] at hmm
    subst hmm
    have hsz : (len + (m - len)) * 16 ≤ reachBytes := by
      have := hw ((len + (m - len)) * 16) (by simp [DataW.weights, Try.underlying33, bytesSpan])
      exact this
    have hr := reach_eq
    have hlen : len ≤ 8796093022208 := by omega
    cases hlz : len with
    | zero =>
      subst hlz
      exact ⟨_, rfl, rfl, [], by simp, ⟨_, _, rfl, .inl rfl⟩, fun w' _ => copySpans_emp w' a _⟩
    | succ len' =>
      rw [← hlz]
      have c2 : Try.prog.cellsOf 31 = 2 := by kernel_rfl
      have c1 : Try.prog.cellsOf 3 = 1 := by kernel_rfl
      obtain ⟨f0, f1, he, o0, o1, t0, t1⟩ := spanFields
      have each : ∀ i, i < len → ∃ q : Int × Int, W.cell? (a.add (i * 2)) = some (.int .i64 q.1) ∧ W.cell? (a.add (i * 2 + 1)) = some (.int .i64 q.2) := by
        intro i hi
        obtain ⟨cs', h1, h2⟩ := hcell i (by omega)
        obtain ⟨y0, y1, k, _, hl2, h3, h4⟩ := trod_struct2 he h2
        rw [c2] at hl2 h1
        match cs', hl2 with
        | [x0, x1], _ =>
          rw [o0, t0, c1] at h3; rw [o1, t1, c1] at h4
          simp only [List.drop_zero, List.drop_succ_cons, List.take_succ_cons, List.take_zero] at h3 h4
          obtain ⟨q0, e3, _, _⟩ := DataW.trod_int Try.underlying3 h3
          obtain ⟨q1, e4, _, _⟩ := DataW.trod_int Try.underlying3 h4
          simp only [List.cons.injEq, and_true] at e3 e4
          subst e3 e4
          obtain ⟨_, _, hc⟩ := World.cells?_some h1
          have e0 := hc 0 (by omega)
          have e1 := hc 1 (by omega)
          rw [add_add] at e0 e1
          exact ⟨(q0, q1), by simpa using e0, by simpa using e1⟩
      obtain ⟨q, hq⟩ := choose_lt each
      obtain ⟨g, o, spt⟩ := a
      obtain rfl : spt = none := by
        have := World.cell?_spot (hq 0 (by omega)).1
        simpa [Addr.add] using this
      have hq' : ∀ i, i < len → W.cell? ⟨g, o + i * 2, none⟩ = some (.int .i64 (q i).1) ∧ W.cell? ⟨g, o + i * 2 + 1, none⟩ = some (.int .i64 (q i).2) := fun i hi => by have := hq i hi; rw [add_plain, add_plain] at this; exact this
      obtain ⟨l, hle⟩ : ∃ l : Sps, l = (List.range len).map q := ⟨_, rfl⟩
      have hll : l.length = len := by rw [hle]; simp
      have hg : ∀ i, i < len → fr l i = (q i).1 ∧ ct l i = (q i).2 := fun i hi => by rw [hle]; simp [fr, ct, hi]
      have hrd : ∀ i, i < l.length → W.cell? ⟨g, o + i * 2, none⟩ = some (.int .i64 (fr l i)) ∧ W.cell? ⟨g, o + i * 2 + 1, none⟩ = some (.int .i64 (ct l i)) := fun i hi => by
        rw [hll] at hi
        rw [(hg i hi).1, (hg i hi).2]; exact hq' i hi
      have hsrc : Src W (.slice (some ⟨g, o, none⟩) len m) l.length (flat l) := by
        refine ⟨_, _, by rw [hll], .inr ⟨g, o, rfl, fun j u hj => ?_⟩⟩
        have hfl := flat_length l
        have hjl : j < l.length * 2 := by
          rw [← hfl]; exact (List.getElem?_eq_some_iff.1 hj).1
        have h2 := hrd (j / 2) (by omega)
        have h3 := flat_get l (j / 2) (by omega)
        rcases Nat.mod_two_eq_zero_or_one j with e | e
        · have e2 : j = j / 2 * 2 := by omega
          rw [← e2] at h2 h3
          rw [h2.1, ← h3.1, hj]
        · have e2 : j = j / 2 * 2 + 1 := by omega
          rw [Nat.add_assoc, ← e2] at h2
          rw [← e2] at h3
          rw [h2.2, ← h3.2, hj]
      exact ⟨_, rfl, rfl, l, by rw [hll]; exact hlen, ⟨_, _, by rw [hll], .inr ⟨g, o, rfl, hrd⟩⟩, fun w' k => copySpans_anyO (hsrc.keep k (by simp)) (by rw [hll]; exact hlen)⟩

theorem shapeFields : ∃ f0 f1 f2 f3 : Field, Try.prog.underlying 23 = some (.struct #[f0, f1, f2, f3]) ∧ f0.offset = 0 ∧ f1.offset = 1 ∧ f2.offset = 2 ∧ f3.offset = 3 ∧ f0.type = 3 ∧ f1.type = 3 ∧ f2.type = 3 ∧ f3.type = 3 :=
  ⟨_, _, _, _, Try.underlying23, rfl, rfl, rfl, rfl, rfl, rfl, rfl, rfl⟩
theorem opFields : ∃ f0 f1 f2 f3 f4 f5 f6 f7 : Field, Try.prog.underlying 85 = some (.struct #[f0, f1, f2, f3, f4, f5, f6, f7]) ∧ (f0.offset = 0 ∧ f1.offset = 1 ∧ f2.offset = 2 ∧ f3.offset = 3 ∧ f4.offset = 4 ∧ f5.offset = 5 ∧ f6.offset = 6 ∧ f7.offset = 7) ∧
    f0.type = 3 ∧ f1.type = 3 ∧ f2.type = 3 ∧ f3.type = 3 ∧ f4.type = 3 ∧ f5.type = 49 ∧ f6.type = 33 ∧ f7.type = 23 :=
  ⟨_, _, _, _, _, _, _, _, Try.underlying85, ⟨rfl, rfl, rfl, rfl, rfl, rfl, rfl, rfl⟩, rfl, rfl, rfl, rfl, rfl, rfl, rfl, rfl⟩
theorem trod_struct8 {H : Type} {enc : TypeId × Value → H} {P : Program} {w : World} {base : Nat} {spare : Nat → Bool} {held : Bool} {t : TypeId} {f0 f1 f2 f3 f4 f5 f6 f7 : Field} {fuel : Nat} {cs : List Value} {x : DataW H × List MemPlace} (ht : P.underlying t = some (.struct #[f0, f1, f2, f3, f4, f5, f6, f7])) (h : DataW.trod enc P w base spare held fuel t cs = some x) :
    ∃ y0 y1 y2 y3 y4 y5 y6 y7 n, x.1 = .agg [y0.1, y1.1, y2.1, y3.1, y4.1, y5.1, y6.1, y7.1] ∧ cs.length = P.cellsOf t ∧ DataW.trod enc P w base spare held n f0.type ((cs.drop f0.offset).take (P.cellsOf f0.type)) = some y0 ∧
      DataW.trod enc P w base spare held n f1.type ((cs.drop f1.offset).take (P.cellsOf f1.type)) = some y1 ∧ DataW.trod enc P w base spare held n f2.type ((cs.drop f2.offset).take (P.cellsOf f2.type)) = some y2 ∧
      DataW.trod enc P w base spare held n f3.type ((cs.drop f3.offset).take (P.cellsOf f3.type)) = some y3 ∧ DataW.trod enc P w base spare held n f4.type ((cs.drop f4.offset).take (P.cellsOf f4.type)) = some y4 ∧
      DataW.trod enc P w base spare held n f5.type ((cs.drop f5.offset).take (P.cellsOf f5.type)) = some y5 ∧ DataW.trod enc P w base spare held n f6.type ((cs.drop f6.offset).take (P.cellsOf f6.type)) = some y6 ∧
      DataW.trod enc P w base spare held n f7.type ((cs.drop f7.offset).take (P.cellsOf f7.type)) = some y7 := by
  obtain ⟨xs, n, _, rfl, hl, hlen, hf⟩ := DataW.trod_struct ht h
  match xs, hlen with
  | [y0, y1, y2, y3, y4, y5, y6, y7], _ => exact ⟨y0, y1, y2, y3, y4, y5, y6, y7, n, by simp, hl, by simpa using hf 0 f0 rfl, by simpa using hf 1 f1 rfl, by simpa using hf 2 f2 rfl, by simpa using hf 3 f3 rfl, by simpa using hf 4 f4 rfl, by simpa using hf 5 f5 rfl, by simpa using hf 6 f6 rfl, by simpa using hf 7 f7 rfl⟩
set_option maxRecDepth 100000 in
theorem op_cells {H : Type} {enc : TypeId × Value → H} {W : World} {n : Nat} {cs : List Value} {x : DataW H × List MemPlace} (h : DataW.trod enc Try.prog W 0 (fun _ => true) true n 85 cs = some x)
    (hw : ∀ y ∈ x.1.weights Try.prog 85, y ≤ reachBytes) :
    ∃ o : OpV, cs = [.int .i64 o.kind, .int .i64 o.a, .int .i64 o.b, .int .i64 o.n, .int .i64 o.m, o.pg, o.sp, .int .i64 o.s0, .int .i64 o.s1, .int .i64 o.s2, .int .i64 o.s3] ∧ OpOk W o := by
  obtain ⟨f0, f1, f2, f3, f4, f5, f6, f7, he, ⟨o0, o1, o2, o3, o4, o5, o6, o7⟩, t0, t1, t2, t3, t4, t5, t6, t7⟩ := opFields
  obtain ⟨y0, y1, y2, y3, y4, y5, y6, y7, k, hx, hl, h0, h1, h2, h3, h4, h5, h6, h7⟩ := trod_struct8 he h
  have c11 : Try.prog.cellsOf 85 = 11 := by kernel_rfl
  have c4 : Try.prog.cellsOf 23 = 4 := by kernel_rfl
  have ci : Try.prog.cellsOf 3 = 1 := by kernel_rfl
  have cis : Try.prog.cellsOf 49 = 1 := by kernel_rfl
  have css : Try.prog.cellsOf 33 = 1 := by kernel_rfl
  rw [c11] at hl
  have hw5 : ∀ y ∈ y5.1.weights Try.prog 49, y ≤ reachBytes := fun y hy => hw y (by
    rw [hx]; simp only [DataW.weights, he]
    exact DataW.weights_mem_each (j := 5) (by simp [t5]) (by simp) y hy)
  have hw6 : ∀ y ∈ y6.1.weights Try.prog 33, y ≤ reachBytes := fun y hy => hw y (by
    rw [hx]; simp only [DataW.weights, he]
    exact DataW.weights_mem_each (j := 6) (by simp [t6]) (by simp) y hy)
  match cs, hl with
  | [v0, v1, v2, v3, v4, v5, v6, v7, v8, v9, v10], _ =>
    rw [o0, t0, ci] at h0; rw [o1, t1, ci] at h1; rw [o2, t2, ci] at h2; rw [o3, t3, ci] at h3; rw [o4, t4, ci] at h4; rw [o5, t5, cis] at h5; rw [o6, t6, css] at h6; rw [o7, t7, c4] at h7
    simp only [List.drop_zero, List.drop_succ_cons, List.take_succ_cons, List.take_zero] at h0 h1 h2 h3 h4 h5 h6 h7
    obtain ⟨i0, e0, _, _⟩ := DataW.trod_int Try.underlying3 h0
    obtain ⟨i1, e1, _, w1⟩ := DataW.trod_int Try.underlying3 h1
    obtain ⟨i2, e2, _, w2⟩ := DataW.trod_int Try.underlying3 h2
    obtain ⟨i3, e3, _, _⟩ := DataW.trod_int Try.underlying3 h3
    obtain ⟨i4, e4, _, _⟩ := DataW.trod_int Try.underlying3 h4
    obtain ⟨u5, e5, k5, l5, b5, r5, q5, p5⟩ := ints_cells h5 hw5
    obtain ⟨u6, e6, k6, l6, b6, r6, p6⟩ := spans_cells h6 hw6
    obtain ⟨g0, g1, g2, g3, hs, ⟨m0, m1, m2, m3⟩⟩ : ∃ g0 g1 g2 g3 : Int, [v7, v8, v9, v10] = [.int .i64 g0, .int .i64 g1, .int .i64 g2, .int .i64 g3] ∧ I64 g0 ∧ I64 g1 ∧ I64 g2 ∧ I64 g3 := by
      obtain ⟨s0, s1, s2, s3, hes, a0, a1, a2, a3, b0, b1, b2, b3⟩ := shapeFields
      obtain ⟨xs, n2, _, _, _, hlen, hf⟩ := DataW.trod_struct hes h7
      match xs, hlen with
      | [z0, z1, z2, z3], _ =>
        have d0 := hf 0 s0 rfl
        have d1 := hf 1 s1 rfl
        have d2 := hf 2 s2 rfl
        have d3 := hf 3 s3 rfl
        rw [a0, b0, ci] at d0; rw [a1, b1, ci] at d1; rw [a2, b2, ci] at d2; rw [a3, b3, ci] at d3
        simp only [List.drop_zero, List.drop_succ_cons, List.take_succ_cons, List.take_zero, List.getElem?_cons_zero, List.getElem?_cons_succ] at d0 d1 d2 d3
        obtain ⟨g0, q0, _, x0⟩ := DataW.trod_int Try.underlying3 d0
        obtain ⟨g1, q1, _, x1⟩ := DataW.trod_int Try.underlying3 d1
        obtain ⟨g2, q2, _, x2⟩ := DataW.trod_int Try.underlying3 d2
        obtain ⟨g3, q3, _, x3⟩ := DataW.trod_int Try.underlying3 d3
        simp only [List.cons.injEq, and_true] at q0 q1 q2 q3
        exact ⟨g0, g1, g2, g3, by rw [q0, q1, q2, q3], i64_wf x0, i64_wf x1, i64_wf x2, i64_wf x3⟩
    simp only [List.cons.injEq, and_true] at e0 e1 e2 e3 e4 e5 e6 hs
    obtain ⟨s7, s8, s9, s10⟩ := hs
    subst e0 e1 e2 e3 e4 e5 e6 s7 s8 s9 s10
    exact ⟨⟨i0, i1, i2, i3, i4, v5, v6, g0, g1, g2, g3⟩, rfl, ⟨i64_wf w1, i64_wf w2, m1, k5, k6, ⟨l5, b5, r5, q5, p5⟩, ⟨l6, b6, r6, p6⟩⟩⟩

theorem weightsAll_mem {H : Type} {P : Program} {e : TypeId} : ∀ {l : List (DataW H)} {d : DataW H}, d ∈ l → ∀ n ∈ d.weights P e, n ∈ DataW.weightsAll P e l
  | d' :: r, d, hd, n, hn => by
    simp only [DataW.weightsAll, List.mem_append]
    rcases List.mem_cons.1 hd with rfl | h
    · exact Or.inl hn
    · exact Or.inr (weightsAll_mem h n hn)
theorem bytesOp : Try.prog.bytesOf 85 = 120 := by kernel_rfl
instance : Inhabited OpV := ⟨⟨0, 0, 0, 0, 0, .slice none 0 0, .slice none 0 0, 0, 0, 0, 0⟩⟩
set_option maxRecDepth 100000 in
/-- THE ARGUMENT OPENED. -/
theorem open_ops {H : Type} {enc : TypeId × Value → H} {W : World} {v : Value} {d : DataW H} {p : List MemPlace} (h : DataW.Trod enc Try.prog W 0 (fun _ => true) true 73 v d p) (hv : ∃ a len cap, v = .slice a len cap)
    (hw : ∀ y ∈ d.weights Try.prog 73, y ≤ reachBytes) :
    ∃ (a : Option Addr) (n cap : Nat) (ops : Nat → OpV), v = .slice a n cap ∧ n ≤ 140737488355328 ∧ (n = 0 ∨ ∃ g o, a = some ⟨g, o, none⟩ ∧ ∀ i, i < n → OpCells W g (o + i * 11) (ops i)) ∧ ∀ i, i < n → OpOk W (ops i) := by
  obtain ⟨fuel, hf⟩ := h
  obtain ⟨a0, len, cap0, rfl⟩ := hv
  rcases open_slice Try.underlying73 hf with ⟨hcs, hx⟩ | ⟨a, len', cap, m, n', D, Pl, hcs, _, hl, hm, hmm, hx, hcell⟩
  · simp [Value.cells] at hcs
    obtain ⟨rfl, rfl, rfl⟩ := hcs
    exact ⟨none, 0, 0, fun _ => default, rfl, by omega, .inl rfl, fun i hi => by omega⟩
  · simp [Value.cells] at hcs
    obtain ⟨rfl, rfl, rfl⟩ := hcs
    simp only [if_true] at hmm
    subst hmm
    simp only [Prod.mk.injEq] at hx
    obtain ⟨rfl, rfl⟩ := hx
    have hr := reach_eq
    have hsz : (len + (m - len)) * 120 ≤ reachBytes := by
      have := hw ((len + (m - len)) * 120) (by simp [DataW.weights, Try.underlying73, bytesOp])
      exact this
    have c11 : Try.prog.cellsOf 85 = 11 := by kernel_rfl
    have each : ∀ i, i < len → ∃ q : OpV, (W.cell? (a.add (i * 11)) = some (.int .i64 q.kind) ∧ W.cell? (a.add (i * 11 + 1)) = some (.int .i64 q.a) ∧ W.cell? (a.add (i * 11 + 2)) = some (.int .i64 q.b) ∧ W.cell? (a.add (i * 11 + 3)) = some (.int .i64 q.n) ∧ W.cell? (a.add (i * 11 + 4)) = some (.int .i64 q.m) ∧ W.cell? (a.add (i * 11 + 5)) = some q.pg ∧ W.cell? (a.add (i * 11 + 6)) = some q.sp ∧
        W.cell? (a.add (i * 11 + 7)) = some (.int .i64 q.s0) ∧ W.cell? (a.add (i * 11 + 8)) = some (.int .i64 q.s1) ∧ W.cell? (a.add (i * 11 + 9)) = some (.int .i64 q.s2) ∧ W.cell? (a.add (i * 11 + 10)) = some (.int .i64 q.s3)) ∧ OpOk W q := by
      intro i hi
      obtain ⟨cs', h1, h2⟩ := hcell i (by omega)
      obtain ⟨q, rfl, hok⟩ := op_cells h2 (fun y hy => hw y (by
        simp only [DataW.weights, Try.underlying73, List.mem_cons, List.mem_append]
        exact .inr (.inl (weightsAll_mem (List.mem_map.2 ⟨i, List.mem_range.2 hi, rfl⟩) y hy))))
      rw [c11] at h1
      obtain ⟨_, _, hc⟩ := World.cells?_some h1
      refine ⟨q, ⟨?_, ?_, ?_, ?_, ?_, ?_, ?_, ?_, ?_, ?_, ?_⟩, hok⟩
      · have e := hc 0 (by omega); rw [add_add] at e; simpa using e
      · have e := hc 1 (by omega); rw [add_add] at e; simpa using e
      · have e := hc 2 (by omega); rw [add_add] at e; simpa using e
      · have e := hc 3 (by omega); rw [add_add] at e; simpa using e
      · have e := hc 4 (by omega); rw [add_add] at e; simpa using e
      · have e := hc 5 (by omega); rw [add_add] at e; simpa using e
      · have e := hc 6 (by omega); rw [add_add] at e; simpa using e
      · have e := hc 7 (by omega); rw [add_add] at e; simpa using e
      · have e := hc 8 (by omega); rw [add_add] at e; simpa using e
      · have e := hc 9 (by omega); rw [add_add] at e; simpa using e
      · have e := hc 10 (by omega); rw [add_add] at e; simpa using e
    obtain ⟨q, hq⟩ := choose_lt each
    obtain ⟨g, o, spt⟩ := a
    rcases Nat.eq_zero_or_pos len with h0 | h0
    · subst h0
      exact ⟨_, 0, _, q, rfl, by omega, .inl rfl, fun i hi => by omega⟩
    obtain rfl : spt = none := by
      have := World.cell?_spot (hq 0 h0).1.1
      simpa [Addr.add] using this
    refine ⟨_, len, _, q, rfl, by omega, .inr ⟨g, o, rfl, fun i hi => ?_⟩, fun i hi => (hq i hi).2⟩
    obtain ⟨z0, z1, z2, z3, z4, z5, z6, z7, z8, z9, z10⟩ := (hq i hi).1
    rw [add_plain] at z0 z1 z2 z3 z4 z5 z6 z7 z8 z9 z10
    exact ⟨z0, z1, z2, z3, z4, z5, z6, z7, z8, z9, z10⟩
end Go.Proofs.Ytoghdhjeopcjkaa
