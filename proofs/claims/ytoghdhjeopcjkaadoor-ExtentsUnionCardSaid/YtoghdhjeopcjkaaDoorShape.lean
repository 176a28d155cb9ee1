
/- The walks of the laws' shape, small and whole. Conditions: numbers of an int. -/
import Derived.Test.YtoghdhjeopcjkaaDoorNew
namespace Go.Proofs.YtoghdhjeopcjkaaDoor
open Go.RowKit Go.Deep

/-- A number that an int holds. -/
def I64 (x : Int) : Prop := -9223372036854775808 ≤ x ∧ x ≤ 9223372036854775807
theorem I64.lo {x : Int} (h : I64 x) : -9223372036854775808 ≤ x := h.1
theorem I64.hi {x : Int} (h : I64 x) : x ≤ 9223372036854775807 := h.2
theorem I64.swap {x : Int} (h : I64 x) : x ≤ 9223372036854775807 ∧ -9223372036854775808 ≤ x := ⟨h.2, h.1⟩

theorem tdiv_le {y n : Int} (hy : 0 ≤ y) (hn : 1 ≤ n) : 0 ≤ y.tdiv n ∧ y.tdiv n ≤ y := by
  rw [Int.tdiv_eq_ediv_of_nonneg hy]
  exact ⟨Int.ediv_nonneg hy (by omega), Int.ediv_le_self _ hy⟩
theorem tdiv_i64 {x : Int} (h : I64 x) (n : Int) (hn : 1 ≤ n) : I64 (x.tdiv n) := by
  obtain ⟨h1, h2⟩ := h
  by_cases hx : 0 ≤ x
  · have := tdiv_le hx hn
    exact ⟨by omega, by omega⟩
  · have h3 := tdiv_le (y := -x) (n := n) (by omega) hn
    rw [Int.neg_tdiv] at h3
    exact ⟨by omega, by omega⟩
/-- The law's good shape by any numbers. -/
def shp (p i c : Int) : Sh :=
  { pages := max 24 (4 + (1 + (i % 8).toNat) + 8 + (p % 100).toNat), inodes := 8 * (1 + (i % 8).toNat), cores := 1 + (c % 8).toNat, data := 4 + (1 + (i % 8).toNat) }
theorem shp_ok (p i c : Int) : (shp p i c).Ok := by
  constructor <;> simp only [shp] <;> omega
theorem shp_pages (p i c : Int) : (shp p i c).pages ≤ 119 := by simp only [shp]; omega

theorem small_any (w : World) :
    Calls Tryd.prog 16 #[] w fun e w' => e = .returned (.agg #[.int .i64 24, .int .i64 8, .int .i64 3, .int .i64 5]) ∧ Kp [] w w' := by
  go_enter Tryd.func16, Tryd.ntmps16
  go_wp2
  refine bodyPost_ret (v := .agg #[.int .i64 24, .int .i64 8, .int .i64 3, .int .i64 5]) (by simp [results, Tryd.results16, go_sem]) rfl ⟨rfl, ?_⟩
  repeat (first | exact Kp.refl _ _ | apply Kp.drewN | apply Kp.drew | apply Kp.alloc | (refine Kp.set ?_ (.inr (Nat.le_refl _)) _))

theorem whole_any (p i c d : Int) (hd : 0 ≤ d) (hp : d ≤ p) (hp2 : p ≤ 4096) (w : World) :
    Calls Tryd.prog 17 #[.agg #[.int .i64 p, .int .i64 i, .int .i64 c, .int .i64 d]] w fun e w' => ∃ v, e = .returned v ∧ Own w' w.heap.size v [(d, p - d)] ∧ Kp [] w w' := by
  go_enter Tryd.func17, Tryd.ntmps17
  go_wp2
  go_ret
  exact ⟨_, rfl, Own.lit (by simp) (by omega) _ _, ((Kp.refl [] w).alloc _).alloc _⟩
end Go.Proofs.YtoghdhjeopcjkaaDoor
