
/- A slice of numbers, handed in as an argument: what it reads as. Conditions: it is an argument of that type, within the reach. -/
import Derived.Test.YtoghdhjeopcjkaaDoorUnion
import Derived.Test.YtoghdhjeopcjkaaDoorMoves
import Derived.SizedLaws
namespace Go.Proofs.YtoghdhjeopcjkaaDoor
open Go.ChangeShapes Go.WideShapes Go.ChangeAt Go.RowKit Go.Deep

theorem reach_is : reachBytes = 140737488351232 := rfl
theorem bytesInt : Tryd.prog.bytesOf 3 = 8 := by kernel_rfl
set_option maxRecDepth 100000 in
theorem open_slq {H : Type} {enc : TypeId × Value → H} {W : World} {v : Value} {d : DataW H} {p : List MemPlace} (h : DataW.Trod enc Tryd.prog W 0 (fun _ => true) true 35 v d p) (hv : ∃ a len cap, v = .slice a len cap)
    (hw : ∀ y ∈ d.weights Tryd.prog 35, y ≤ reachBytes) :
    ∃ (a : Option Addr) (n cap : Nat) (q : Nat → Int), v = .slice a n cap ∧ n ≤ 140737488355328 ∧ SlQ W a n q := by
  obtain ⟨fuel, hf⟩ := h
  obtain ⟨a0, len, cap0, rfl⟩ := hv
  rcases open_slice Tryd.underlying35 hf with ⟨hcs, hx⟩ | ⟨a, len', cap, m, n', D, Pl, hcs, _, hl, hm, hmm, hx, hcell⟩
  · simp [Value.cells] at hcs
    obtain ⟨rfl, rfl, rfl⟩ := hcs
    exact ⟨none, 0, 0, fun _ => 0, rfl, by omega, .inl rfl⟩
  · simp [Value.cells] at hcs
    obtain ⟨rfl, rfl, rfl⟩ := hcs
    simp only [if_true] at hmm
    subst hmm
    simp only [Prod.mk.injEq] at hx
    obtain ⟨rfl, rfl⟩ := hx
    have hr := reach_is
    have hsz : (len + (m - len)) * 8 ≤ reachBytes := by
      have := hw ((len + (m - len)) * 8) (by simp [DataW.weights, Tryd.underlying35, bytesInt])
      exact this
    have c1 : Tryd.prog.cellsOf 3 = 1 := by kernel_rfl
    have each : ∀ i, i < len → ∃ q : Int, W.cell? (a.add i) = some (.int .i64 q) := by
      intro i hi
      obtain ⟨cs', h1, h2⟩ := hcell i (by omega)
      obtain ⟨q, rfl, _, _⟩ := DataW.trod_int Tryd.underlying3 h2
      rw [c1, Nat.mul_one] at h1
      obtain ⟨_, _, hc⟩ := World.cells?_some h1
      have e0 := hc 0 (by omega)
      rw [add_add] at e0
      exact ⟨q, by simpa using e0⟩
    obtain ⟨q, hq⟩ := choose_lt each
    obtain ⟨g, o, spt⟩ := a
    rcases Nat.eq_zero_or_pos len with h0 | h0
    · subst h0
      exact ⟨_, 0, _, q, rfl, by omega, .inl rfl⟩
    obtain rfl : spt = none := by
      have := World.cell?_spot (hq 0 h0)
      simpa [Addr.add] using this
    exact ⟨_, len, _, q, rfl, by omega, .inr ⟨g, o, rfl, fun i hi => by have := hq i hi; rwa [add_plain] at this⟩⟩
end Go.Proofs.YtoghdhjeopcjkaaDoor
