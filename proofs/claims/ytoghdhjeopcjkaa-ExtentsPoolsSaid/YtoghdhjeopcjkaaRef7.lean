/- The walks of the reference's GoodShape, NewPool. Conditions: the slice of spans is read as told. -/
import Derived.Test.YtoghdhjeopcjkaaRef6
namespace Go.Proofs.Ytoghdhjeopcjkaa
open Go.RowKit Go.Deep

set_option maxHeartbeats 1000000 in
theorem goodShape_no (p i c d : Int) (hi : I64 i) (h : fits p i c = false ∨ d ≠ 4 + i / 8) (w : World) :
    Calls Try.prog 72 #[.agg #[.int .i64 p, .int .i64 i, .int .i64 c, .int .i64 d]] w fun e w' => e = .returned (.bool false) ∧ Kp [] w w' := by
  obtain ⟨hi1, hi2⟩ := hi
  by_cases t1 : p < 24
  · have e1 : decide (p < 24) = true := by simpa using t1
    clear h
    go_enter Try.func72, Try.ntmps72
    go_wp2
    go_ret
    exact ⟨by first | rfl | simp, (Kp.refl _ _).alloc _⟩
  have e1 : decide (p < 24) = false := by simpa using t1
  by_cases t2 : 1024 < p
  · have e2 : decide (1024 < p) = true := by simpa using t2
    clear h
    go_enter Try.func72, Try.ntmps72
    go_wp2
    go_ret
    exact ⟨by first | rfl | simp, (Kp.refl _ _).alloc _⟩
  have e2 : decide (1024 < p) = false := by simpa using t2
  by_cases t3 : i < 8
  · have e3 : decide (i < 8) = true := by simpa using t3
    clear h
    go_enter Try.func72, Try.ntmps72
    go_wp2
    go_ret
    exact ⟨by first | rfl | simp, (Kp.refl _ _).alloc _⟩
  have e3 : decide (i < 8) = false := by simpa using t3
  by_cases t4 : 256 < i
  · have e4 : decide (256 < i) = true := by simpa using t4
    clear h
    go_enter Try.func72, Try.ntmps72
    go_wp2
    go_ret
    exact ⟨by first | rfl | simp, (Kp.refl _ _).alloc _⟩
  have e4 : decide (256 < i) = false := by simpa using t4
  by_cases t5 : c < 1
  · have e5 : decide (c < 1) = true := by simpa using t5
    clear h
    go_enter Try.func72, Try.ntmps72
    go_wp2
    go_ret
    exact ⟨by first | rfl | simp, (Kp.refl _ _).alloc _⟩
  have e5 : decide (c < 1) = false := by simpa using t5
  by_cases t6 : 8 < c
  · have e6 : decide (8 < c) = true := by simpa using t6
    clear h
    go_enter Try.func72, Try.ntmps72
    go_wp2
    go_ret
    exact ⟨by first | rfl | simp, (Kp.refl _ _).alloc _⟩
  have e6 : decide (8 < c) = false := by simpa using t6
  by_cases t7 : i % 8 = 0
  case neg =>
    have e7 : (i % 8 == 0) = false := by simpa using t7
    clear h
    go_enter Try.func72, Try.ntmps72
    go_wp2
    go_ret
    exact ⟨by first | rfl | simp, (Kp.refl _ _).alloc _⟩
  have e7 : (i % 8 == 0) = true := by simpa using t7
  by_cases t8 : d = 4 + i / 8
  case neg =>
    have e8 : (d == 4 + i / 8) = false := by simpa using t8
    clear h
    go_enter Try.func72, Try.ntmps72
    go_wp2
    go_ret
    exact ⟨by first | rfl | simp, (Kp.refl _ _).alloc _⟩
  have e8 : (d == 4 + i / 8) = true := by simpa using t8
  have t9 : ¬ 8 ≤ p - d := by
    rcases h with h | h
    · intro h9
      have : fits p i c = true := by
        simp only [fits, Bool.and_eq_true, wi_iff, beq_iff_eq, decide_eq_true_eq]
        omega
      rw [h] at this; cases this
    · exact absurd t8 h
  have e9 : decide (8 ≤ p - d) = false := by simpa using t9
  clear h
  have hd1 : 5 ≤ d := by omega
  have hd2 : d ≤ 40 := by omega
  have T8 := hide t8
  have T7 := hide t7
  clear t8 t7
  go_enter Try.func72, Try.ntmps72
  go_wp2
  go_ret
  exact ⟨by first | rfl | simp, (Kp.refl _ _).alloc _⟩
theorem goodShape_yes {S : Sh} (ok : S.Ok) (w : World) :
    Calls Try.prog 72 #[.agg #[.int .i64 S.pages, .int .i64 S.inodes, .int .i64 S.cores, .int .i64 S.data]] w fun e w' => e = .returned (.bool true) ∧ Kp [] w w' := by
  obtain ⟨p1, p2, i1, i2, i3, c1, c2, d1, d2⟩ := ok
  have e1 : decide ((S.pages : Int) < 24) = false := by simp; omega
  have e1' : decide (S.pages < 24) = false := by simp; omega
  have e2 : decide ((1024 : Int) < (S.pages : Int)) = false := by simp; omega
  have e2' : decide (1024 < S.pages) = false := by simp; omega
  have e3 : decide ((S.inodes : Int) < 8) = false := by simp; omega
  have e3' : decide (S.inodes < 8) = false := by simp; omega
  have e4 : decide ((256 : Int) < (S.inodes : Int)) = false := by simp; omega
  have e4' : decide (256 < S.inodes) = false := by simp; omega
  have e5 : decide ((S.cores : Int) < 1) = false := by simp; omega
  have e5' : decide (S.cores < 1) = false := by simp; omega
  have e5'' : decide (S.cores = 0) = false := by simp; omega
  have e6 : decide ((8 : Int) < (S.cores : Int)) = false := by simp; omega
  have e6' : decide (8 < S.cores) = false := by simp; omega
  have e7 : ((S.inodes : Int) % 8 == 0) = true := by simp; omega
  have e8 : ((S.data : Int) == 4 + (S.inodes : Int) / 8) = true := by simp; omega
  have e9 : decide ((8 : Int) ≤ (S.pages : Int) - (S.data : Int)) = true := by simp; omega
  have I3 := hide i3
  have D1 := hide d1
  clear i3 d1
  go_enter Try.func72, Try.ntmps72
  go_wp2
  go_ret
  exact ⟨by first | rfl | simp, (Kp.refl _ _).alloc _⟩
end Go.Proofs.Ytoghdhjeopcjkaa
