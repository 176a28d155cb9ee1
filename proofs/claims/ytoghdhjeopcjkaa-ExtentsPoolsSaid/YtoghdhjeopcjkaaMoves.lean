/- A slice of moves, handed in as an argument: what it reads as. Conditions: it is an argument of the type of a slice of moves. -/
import Derived.Test.YtoghdhjeopcjkaaPlayed
import Derived.ProofKit
import Derived.OpenShut
import Derived.Deep.Slices
import Derived.Deep.Strs
import Derived.Carry
namespace Go.Proofs.Ytoghdhjeopcjkaa
open Go.ChangeShapes Go.WideShapes Go.ChangeAt Go.RowKit Go.Deep

theorem i64_wf {x : Int} (h : (Lit.int .i64 x).wf = true) : I64 x := by
  simp [Lit.wf, IntKind.min, IntKind.max, IntKind.signed, IntKind.bits] at h
  exact ⟨by omega, by omega⟩
theorem movesLaid : laidOutB Try.prog = true := by kernel_rfl
theorem moveFields : ∃ f0 f1 f2 : Field, Try.prog.underlying 62 = some (.struct #[f0, f1, f2]) ∧ f0.offset = 0 ∧ f1.offset = 1 ∧ f2.offset = 2 ∧ f0.type = 4 ∧ f1.type = 3 ∧ f2.type = 3 :=
  ⟨_, _, _, Try.underlying62, rfl, rfl, rfl, rfl, rfl, rfl⟩
set_option maxRecDepth 100000 in
theorem move_cells {H : Type} {enc : TypeId × Value → H} {W : World} {n : Nat} {cs : List Value} {x : DataW H × List MemPlace} (h : DataW.trod enc Try.prog W 0 (fun _ => true) true n 62 cs = some x) :
    ∃ m : Mv, cs = [.bool m.1, .int .i64 m.2.1, .int .i64 m.2.2] ∧ I64 m.2.1 ∧ I64 m.2.2 := by
  obtain ⟨f0, f1, f2, he, o0, o1, o2, t0, t1, t2⟩ := moveFields
  obtain ⟨y0, y1, y2, k, _, hl, h0, h1, h2⟩ := trod_struct3 he h
  have c3 : Try.prog.cellsOf 62 = 3 := by kernel_rfl
  have cb : Try.prog.cellsOf 4 = 1 := by kernel_rfl
  have ci : Try.prog.cellsOf 3 = 1 := by kernel_rfl
  rw [c3] at hl
  match cs, hl with
  | [a, b, c], _ =>
    rw [o0, t0, cb] at h0; rw [o1, t1, ci] at h1; rw [o2, t2, ci] at h2
    simp only [List.drop_zero, List.drop_succ_cons, List.take_succ_cons, List.take_zero] at h0 h1 h2
    obtain ⟨q, e0, _⟩ := DataW.trod_bool Try.underlying4 h0
    obtain ⟨i, e1, _, w1⟩ := DataW.trod_int Try.underlying3 h1
    obtain ⟨j, e2, _, w2⟩ := DataW.trod_int Try.underlying3 h2
    simp only [List.cons.injEq, and_true] at e0 e1 e2
    exact ⟨(q, i, j), by rw [e0, e1, e2], i64_wf w1, i64_wf w2⟩

theorem shape_lt {w : World} {b : Nat} {x : Nat × Nat} (h : w.shape? b = some x) : b < w.heap.size := by
  unfold World.shape? at h
  rcases Nat.lt_or_ge b w.heap.size with hb | hb
  · exact hb
  · rw [Array.getElem?_eq_none hb] at h
    cases h

set_option maxRecDepth 100000 in
/-- THE ARGUMENT OPENED. -/
theorem open_moves {H : Type} {enc : TypeId × Value → H} {W : World} {r : Reach} {base : Nat} {v : Value} {d : DataW H} {p : List MemPlace} (hval : Value.okWide Try.prog W r base 37 v)
    (h : DataW.Trod enc Try.prog W 0 (fun _ => true) true 37 v d p) :
    ∃ l : List Mv, RdM W v l ∧ (∀ x, v.ownBlock = some x → x < W.heap.size) ∧ l.length ≤ 9223372036854775807 := by
  obtain ⟨fuel, hf⟩ := h
  obtain ⟨a0, len, cap, rfl⟩ := okWide_slice Try.underlying37 hval
  rcases open_slice Try.underlying37 hf with ⟨hcs, hx⟩ | ⟨a, len', cap', m, n, D, Pl, hcs, _, hl, hm, hmm, hx, hcell⟩
  · simp [Value.cells] at hcs
    obtain ⟨rfl, rfl, rfl⟩ := hcs
    refine ⟨[], ⟨none, 0, rfl, .inl rfl⟩, ?_, by simp⟩
    intro x hx; simp [Value.ownBlock] at hx
  · simp [Value.cells] at hcs
    obtain ⟨rfl, rfl, rfl⟩ := hcs
    simp only [Value.okWide, Try.underlying37, Cell.okWide, Cell.ok] at hval
    obtain ⟨_, _, _, hspot, row, cells, hsh, _⟩ := hval
    obtain ⟨g, o, sp⟩ := a
    simp only at hspot hsh
    subst hspot
    have hg := shape_lt hsh
    simp only [if_true] at hmm
    subst hmm
    have c3 : Try.prog.cellsOf 62 = 3 := by kernel_rfl
    have each : ∀ i, i < len → ∃ q : Mv, W.cell? ⟨g, o + i * 3, none⟩ = some (.bool q.1) ∧ W.cell? ⟨g, o + i * 3 + 1, none⟩ = some (.int .i64 q.2.1) ∧ W.cell? ⟨g, o + i * 3 + 2, none⟩ = some (.int .i64 q.2.2) ∧ I64 q.2.1 ∧ I64 q.2.2 := by
      intro i hi
      obtain ⟨cs', h1, h2⟩ := hcell i (by omega)
      obtain ⟨q, rfl, w1, w2⟩ := move_cells h2
      rw [c3] at h1
      obtain ⟨_, _, hc⟩ := World.cells?_some h1
      have e0 := hc 0 (by omega)
      have e1 := hc 1 (by omega)
      have e2 := hc 2 (by omega)
      rw [add_add, add_plain] at e0 e1 e2
      exact ⟨q, by simpa using e0, by simpa [Nat.add_assoc] using e1, by simpa [Nat.add_assoc] using e2, w1, w2⟩
    obtain ⟨q, hq⟩ := choose_lt each
    have hget : ∀ i, i < len → ((List.range len).map q)[i]? = some (q i) := fun i hi => by simp [hi]
    refine ⟨(List.range len).map q, ⟨some ⟨g, o, none⟩, _, by simp only [List.length_map, List.length_range]; rfl, .inr ⟨g, o, rfl, fun i hi => ?_⟩⟩, fun x hx => ?_, ?_⟩
    · have hi : i < len := by simpa using hi
      have h := hq i hi
      unfold mvb mvn mvm
      rw [hget i hi]
      exact h
    · simp [Value.ownBlock] at hx
      subst hx; exact hg
    · simp only [List.length_map, List.length_range]
      have : maxLen = 9223372036854775807 := by decide
      omega
end Go.Proofs.Ytoghdhjeopcjkaa
