
/- The script of steps, handed in as an argument: what it reads as. Conditions: it is an argument of the type of a slice of steps, within the reach. -/
import Derived.Test.YtoghdhjeopcjkaaDoorMarksW
import Derived.Test.YtoghdhjeopcjkaaDoorMoves
import Derived.SizedLaws
namespace Go.Proofs.YtoghdhjeopcjkaaDoor
open Go.ChangeShapes Go.WideShapes Go.ChangeAt Go.RowKit Go.Deep

theorem reach_eq : reachBytes = 140737488351232 := rfl
theorem slice_cells {H : Type} {enc : TypeId × Value → H} {W : World} {n : Nat} {cs : List Value} {x : DataW H × List MemPlace} {T E : TypeId} (hT : Tryd.prog.underlying T = some (.slice E)) (h : DataW.trod enc Tryd.prog W 0 (fun _ => true) true n T cs = some x) : ∃ v, cs = [v] ∧ v.oneCell' = true := by
  rcases open_slice hT h with ⟨rfl, _⟩ | ⟨a, len, cap, m, n', D, Pl, rfl, _⟩
  · exact ⟨_, rfl, rfl⟩
  · exact ⟨_, rfl, rfl⟩
theorem shapeFields : ∃ f0 f1 f2 f3 : Field, Tryd.prog.underlying 38 = some (.struct #[f0, f1, f2, f3]) ∧ f0.offset = 0 ∧ f1.offset = 1 ∧ f2.offset = 2 ∧ f3.offset = 3 ∧ f0.type = 3 ∧ f1.type = 3 ∧ f2.type = 3 ∧ f3.type = 3 :=
  ⟨_, _, _, _, Tryd.underlying38, rfl, rfl, rfl, rfl, rfl, rfl, rfl, rfl⟩
theorem opFields : ∃ f0 f1 f2 f3 f4 f5 f6 f7 : Field, Tryd.prog.underlying 40 = some (.struct #[f0, f1, f2, f3, f4, f5, f6, f7]) ∧ (f0.offset = 0 ∧ f1.offset = 1 ∧ f2.offset = 2 ∧ f3.offset = 3 ∧ f4.offset = 4 ∧ f5.offset = 5 ∧ f6.offset = 6 ∧ f7.offset = 7) ∧
    f0.type = 3 ∧ f1.type = 3 ∧ f2.type = 3 ∧ f3.type = 3 ∧ f4.type = 3 ∧ f5.type = 35 ∧ f6.type = 36 ∧ f7.type = 38 :=
  ⟨_, _, _, _, _, _, _, _, Tryd.underlying40, ⟨rfl, rfl, rfl, rfl, rfl, rfl, rfl, rfl⟩, rfl, rfl, rfl, rfl, rfl, rfl, rfl, rfl⟩
theorem trod_struct8 {H : Type} {enc : TypeId × Value → H} {P : Program} {w : World} {base : Nat} {spare : Nat → Bool} {held : Bool} {t : TypeId} {f0 f1 f2 f3 f4 f5 f6 f7 : Field} {fuel : Nat} {cs : List Value} {x : DataW H × List MemPlace} (ht : P.underlying t = some (.struct #[f0, f1, f2, f3, f4, f5, f6, f7])) (h : DataW.trod enc P w base spare held fuel t cs = some x) :
    ∃ y0 y1 y2 y3 y4 y5 y6 y7 n, x.1 = .agg [y0.1, y1.1, y2.1, y3.1, y4.1, y5.1, y6.1, y7.1] ∧ cs.length = P.cellsOf t ∧ DataW.trod enc P w base spare held n f0.type ((cs.drop f0.offset).take (P.cellsOf f0.type)) = some y0 ∧
      DataW.trod enc P w base spare held n f1.type ((cs.drop f1.offset).take (P.cellsOf f1.type)) = some y1 ∧ DataW.trod enc P w base spare held n f2.type ((cs.drop f2.offset).take (P.cellsOf f2.type)) = some y2 ∧
      DataW.trod enc P w base spare held n f3.type ((cs.drop f3.offset).take (P.cellsOf f3.type)) = some y3 ∧ DataW.trod enc P w base spare held n f4.type ((cs.drop f4.offset).take (P.cellsOf f4.type)) = some y4 ∧
      DataW.trod enc P w base spare held n f5.type ((cs.drop f5.offset).take (P.cellsOf f5.type)) = some y5 ∧ DataW.trod enc P w base spare held n f6.type ((cs.drop f6.offset).take (P.cellsOf f6.type)) = some y6 ∧
      DataW.trod enc P w base spare held n f7.type ((cs.drop f7.offset).take (P.cellsOf f7.type)) = some y7 := by
  obtain ⟨xs, n, _, rfl, hl, hlen, hf⟩ := DataW.trod_struct ht h
  match xs, hlen with
  | [y0, y1, y2, y3, y4, y5, y6, y7], _ => exact ⟨y0, y1, y2, y3, y4, y5, y6, y7, n, by simp, hl, by simpa using hf 0 f0 rfl, by simpa using hf 1 f1 rfl, by simpa using hf 2 f2 rfl, by simpa using hf 3 f3 rfl, by simpa using hf 4 f4 rfl, by simpa using hf 5 f5 rfl, by simpa using hf 6 f6 rfl, by simpa using hf 7 f7 rfl⟩
set_option maxRecDepth 100000 in
theorem op_cells {H : Type} {enc : TypeId × Value → H} {W : World} {n : Nat} {cs : List Value} {x : DataW H × List MemPlace} (h : DataW.trod enc Tryd.prog W 0 (fun _ => true) true n 40 cs = some x) :
    ∃ o : OpV, cs = [.int .i64 o.kind, .int .i64 o.a, .int .i64 o.b, .int .i64 o.n, .int .i64 o.m, o.pg, o.sp, .int .i64 o.s0, .int .i64 o.s1, .int .i64 o.s2, .int .i64 o.s3] ∧ OpOk o := by
  obtain ⟨f0, f1, f2, f3, f4, f5, f6, f7, he, ⟨o0, o1, o2, o3, o4, o5, o6, o7⟩, t0, t1, t2, t3, t4, t5, t6, t7⟩ := opFields
  obtain ⟨y0, y1, y2, y3, y4, y5, y6, y7, k, hx, hl, h0, h1, h2, h3, h4, h5, h6, h7⟩ := trod_struct8 he h
  have c11 : Tryd.prog.cellsOf 40 = 11 := by kernel_rfl
  have c4 : Tryd.prog.cellsOf 38 = 4 := by kernel_rfl
  have ci : Tryd.prog.cellsOf 3 = 1 := by kernel_rfl
  have cis : Tryd.prog.cellsOf 35 = 1 := by kernel_rfl
  have css : Tryd.prog.cellsOf 36 = 1 := by kernel_rfl
  rw [c11] at hl
  match cs, hl with
  | [v0, v1, v2, v3, v4, v5, v6, v7, v8, v9, v10], _ =>
    rw [o0, t0, ci] at h0; rw [o1, t1, ci] at h1; rw [o2, t2, ci] at h2; rw [o3, t3, ci] at h3; rw [o4, t4, ci] at h4; rw [o5, t5, cis] at h5; rw [o6, t6, css] at h6; rw [o7, t7, c4] at h7
    simp only [List.drop_zero, List.drop_succ_cons, List.take_succ_cons, List.take_zero] at h0 h1 h2 h3 h4 h5 h6 h7
    obtain ⟨i0, e0, _, _⟩ := DataW.trod_int Tryd.underlying3 h0
    obtain ⟨i1, e1, _, w1⟩ := DataW.trod_int Tryd.underlying3 h1
    obtain ⟨i2, e2, _, w2⟩ := DataW.trod_int Tryd.underlying3 h2
    obtain ⟨i3, e3, _, _⟩ := DataW.trod_int Tryd.underlying3 h3
    obtain ⟨i4, e4, _, _⟩ := DataW.trod_int Tryd.underlying3 h4
    obtain ⟨u5, e5, k5⟩ := slice_cells Tryd.underlying35 h5
    obtain ⟨u6, e6, k6⟩ := slice_cells Tryd.underlying36 h6
    obtain ⟨g0, g1, g2, g3, hs, ⟨m0, m1, m2, m3⟩⟩ : ∃ g0 g1 g2 g3 : Int, [v7, v8, v9, v10] = [.int .i64 g0, .int .i64 g1, .int .i64 g2, .int .i64 g3] ∧ I64 g0 ∧ I64 g1 ∧ I64 g2 ∧ I64 g3 := by
      obtain ⟨s0, s1, s2, s3, hes, a0, a1, a2, a3, b0, b1, b2, b3⟩ := shapeFields
      obtain ⟨xs, n2, _, _, _, hlen, hf⟩ := DataW.trod_struct hes h7
      match xs, hlen with
      | [z0, z1, z2, z3], _ =>
        have d0 := hf 0 s0 rfl
        have d1 := hf 1 s1 rfl
        have d2 := hf 2 s2 rfl
        have d3 := hf 3 s3 rfl
        rw [a0, b0, ci] at d0; rw [a1, b1, ci] at d1; rw [a2, b2, ci] at d2; rw [a3, b3, ci] at d3
        simp only [List.drop_zero, List.drop_succ_cons, List.take_succ_cons, List.take_zero, List.getElem?_cons_zero, List.getElem?_cons_succ] at d0 d1 d2 d3
        obtain ⟨g0, q0, _, x0⟩ := DataW.trod_int Tryd.underlying3 d0
        obtain ⟨g1, q1, _, x1⟩ := DataW.trod_int Tryd.underlying3 d1
        obtain ⟨g2, q2, _, x2⟩ := DataW.trod_int Tryd.underlying3 d2
        obtain ⟨g3, q3, _, x3⟩ := DataW.trod_int Tryd.underlying3 d3
        simp only [List.cons.injEq, and_true] at q0 q1 q2 q3
        exact ⟨g0, g1, g2, g3, by rw [q0, q1, q2, q3], i64_wf x0, i64_wf x1, i64_wf x2, i64_wf x3⟩
    simp only [List.cons.injEq, and_true] at e0 e1 e2 e3 e4 e5 e6 hs
    obtain ⟨s7, s8, s9, s10⟩ := hs
    subst e0 e1 e2 e3 e4 e5 e6 s7 s8 s9 s10
    exact ⟨⟨i0, i1, i2, i3, i4, v5, v6, g0, g1, g2, g3⟩, rfl, ⟨i64_wf w1, i64_wf w2, k5, k6⟩⟩

theorem bytesOp : Tryd.prog.bytesOf 40 = 120 := by kernel_rfl
instance : Inhabited OpV := ⟨⟨0, 0, 0, 0, 0, .slice none 0 0, .slice none 0 0, 0, 0, 0, 0⟩⟩
set_option maxRecDepth 100000 in
/-- THE ARGUMENT OPENED. -/
theorem open_ops {H : Type} {enc : TypeId × Value → H} {W : World} {v : Value} {d : DataW H} {p : List MemPlace} (h : DataW.Trod enc Tryd.prog W 0 (fun _ => true) true 22 v d p) (hv : ∃ a len cap, v = .slice a len cap)
    (hw : ∀ y ∈ d.weights Tryd.prog 22, y ≤ reachBytes) :
    ∃ (a : Option Addr) (n cap : Nat) (ops : Nat → OpV), v = .slice a n cap ∧ n ≤ 140737488355328 ∧ (n = 0 ∨ ∃ g o, a = some ⟨g, o, none⟩ ∧ ∀ i, i < n → OpCells W g (o + i * 11) (ops i)) ∧ ∀ i, i < n → OpOk (ops i) := by
  obtain ⟨fuel, hf⟩ := h
  obtain ⟨a0, len, cap0, rfl⟩ := hv
  rcases open_slice Tryd.underlying22 hf with ⟨hcs, hx⟩ | ⟨a, len', cap, m, n', D, Pl, hcs, _, hl, hm, hmm, hx, hcell⟩
  · simp [Value.cells] at hcs
    obtain ⟨rfl, rfl, rfl⟩ := hcs
    exact ⟨none, 0, 0, fun _ => default, rfl, by omega, .inl rfl, fun i hi => by omega⟩
  · simp [Value.cells] at hcs
    obtain ⟨rfl, rfl, rfl⟩ := hcs
    simp only [if_true] at hmm
    subst hmm
    simp only [Prod.mk.injEq] at hx
    obtain ⟨rfl, rfl⟩ := hx
    have hr := reach_eq
    have hsz : (len + (m - len)) * 120 ≤ reachBytes := by
      have := hw ((len + (m - len)) * 120) (by simp [DataW.weights, Tryd.underlying22, bytesOp])
      exact this
    have c11 : Tryd.prog.cellsOf 40 = 11 := by kernel_rfl
    have each : ∀ i, i < len → ∃ q : OpV, (W.cell? (a.add (i * 11)) = some (.int .i64 q.kind) ∧ W.cell? (a.add (i * 11 + 1)) = some (.int .i64 q.a) ∧ W.cell? (a.add (i * 11 + 2)) = some (.int .i64 q.b) ∧ W.cell? (a.add (i * 11 + 3)) = some (.int .i64 q.n) ∧ W.cell? (a.add (i * 11 + 4)) = some (.int .i64 q.m) ∧ W.cell? (a.add (i * 11 + 5)) = some q.pg ∧ W.cell? (a.add (i * 11 + 6)) = some q.sp ∧
        W.cell? (a.add (i * 11 + 7)) = some (.int .i64 q.s0) ∧ W.cell? (a.add (i * 11 + 8)) = some (.int .i64 q.s1) ∧ W.cell? (a.add (i * 11 + 9)) = some (.int .i64 q.s2) ∧ W.cell? (a.add (i * 11 + 10)) = some (.int .i64 q.s3)) ∧ OpOk q := by
      intro i hi
      obtain ⟨cs', h1, h2⟩ := hcell i (by omega)
      obtain ⟨q, rfl, hok⟩ := op_cells h2
      rw [c11] at h1
      obtain ⟨_, _, hc⟩ := World.cells?_some h1
      refine ⟨q, ⟨?_, ?_, ?_, ?_, ?_, ?_, ?_, ?_, ?_, ?_, ?_⟩, hok⟩
      · have e := hc 0 (by omega); rw [add_add] at e; simpa using e
      · have e := hc 1 (by omega); rw [add_add] at e; simpa using e
      · have e := hc 2 (by omega); rw [add_add] at e; simpa using e
      · have e := hc 3 (by omega); rw [add_add] at e; simpa using e
      · have e := hc 4 (by omega); rw [add_add] at e; simpa using e
      · have e := hc 5 (by omega); rw [add_add] at e; simpa using e
      · have e := hc 6 (by omega); rw [add_add] at e; simpa using e
      · have e := hc 7 (by omega); rw [add_add] at e; simpa using e
      · have e := hc 8 (by omega); rw [add_add] at e; simpa using e
      · have e := hc 9 (by omega); rw [add_add] at e; simpa using e
      · have e := hc 10 (by omega); rw [add_add] at e; simpa using e
    obtain ⟨q, hq⟩ := choose_lt each
    obtain ⟨g, o, spt⟩ := a
    rcases Nat.eq_zero_or_pos len with h0 | h0
    · subst h0
      exact ⟨_, 0, _, q, rfl, by omega, .inl rfl, fun i hi => by omega⟩
    obtain rfl : spt = none := by
      have := World.cell?_spot (hq 0 h0).1.1
      simpa [Addr.add] using this
    refine ⟨_, len, _, q, rfl, by omega, .inr ⟨g, o, rfl, fun i hi => ?_⟩, fun i hi => (hq i hi).2⟩
    obtain ⟨z0, z1, z2, z3, z4, z5, z6, z7, z8, z9, z10⟩ := (hq i hi).1
    rw [add_plain] at z0 z1 z2 z3 z4 z5 z6 z7 z8 z9 z10
    exact ⟨z0, z1, z2, z3, z4, z5, z6, z7, z8, z9, z10⟩
end Go.Proofs.YtoghdhjeopcjkaaDoor
