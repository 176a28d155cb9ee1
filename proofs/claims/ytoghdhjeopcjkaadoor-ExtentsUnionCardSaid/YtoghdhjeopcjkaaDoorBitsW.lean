
/- The walks of the library's TrailingZeros64 and OnesCount64. Conditions: the library's table lies in block 0 (TabOk). -/
import Derived.Test.YtoghdhjeopcjkaaDoorOnes
import Derived.Lib.TrailingZeros
namespace Go.Proofs.YtoghdhjeopcjkaaDoor
open Go.RowKit

/-- The library's table of 64 numbers. -/
def TabOk (w : World) : Prop := ∀ j, j < Lib.deBruijn64tab.length → w.cell? ⟨0, j, none⟩ = some (.int .u8 (Lib.deBruijn64tab.getD j 0))
theorem TabOk.keep {S : List Nat} {w w' : World} (h : TabOk w) (k : Kp S w w') (h0 : 0 ∉ S) : TabOk w' := fun j hj => k.cell (h j hj) h0

set_option maxHeartbeats 1000000 in
theorem tz64_core (x k idx : Nat) (w : World) (hx0 : ((x : Int) == 0) = false)
    (key : IntKind.u64.wrap (bits BinOp.and IntKind.u64 (x : Int) (IntKind.u64.wrap (-(x : Int))) * 285870213051353865) / 288230376151711744 = (idx : Int))
    (hi : idx < 64) (hk : k < 64) (hcell : w.cell? ⟨0, idx, none⟩ = some (.int .u8 k)) :
    Calls Tryd.prog 31 #[.int .u64 x] w fun e w' => e = .returned (.int .i64 k) ∧ w = w' := by
  go_enter Tryd.func31, Tryd.ntmps31
  go_wp2_with (simp only [key])
  go_ret
  exact ⟨rfl, rfl⟩
theorem tz64_zero (w : World) : Calls Tryd.prog 31 #[.int .u64 0] w fun e w' => e = .returned (.int .i64 64) ∧ w = w' := by
  go_enter Tryd.func31, Tryd.ntmps31
  go_wp2
  go_ret
  exact ⟨rfl, rfl⟩
theorem tz64_key (x a : Nat) (hx : x < 18446744073709551616) (hx0 : x ≠ 0) (hlow : x &&& (18446744073709551616 - x) = a) :
    IntKind.u64.wrap (bits BinOp.and IntKind.u64 (x : Int) (IntKind.u64.wrap (-(x : Int))) * 285870213051353865) / 288230376151711744 = ((a * 285870213051353865 % 18446744073709551616 / 288230376151711744 : Nat) : Int) := by
  have e1 : IntKind.u64.wrap (-(x : Int)) = ((18446744073709551616 - x : Nat) : Int) := by rw [IntKind.wrap_u64]; omega
  rw [e1, u64_and_nat x _ hx (by omega), hlow, IntKind.wrap_u64]
  omega
theorem tz64_any (x : Nat) (hx : x < 18446744073709551616) (w : World) (hT : TabOk w) :
    Calls Tryd.prog 31 #[.int .u64 x] w fun e w' => e = .returned (.int .i64 (Lib.ctz 64 x)) ∧ w = w' := by
  by_cases hx0 : x = 0
  · subst hx0
    exact tz64_zero w
  · obtain ⟨hlow, hk⟩ := Lib.lowest_bit 64 x hx0 hx
    obtain ⟨hi, htab⟩ := Lib.deBruijn64_at _ hk
    have hcell := hT _ hi
    rw [htab] at hcell
    exact tz64_core x _ _ w (by simp; omega) (tz64_key x _ hx hx0 hlow) hi hk hcell
/-- The lowest bit of a word that is on. -/
theorem ctz_low (x : Nat) (h0 : x ≠ 0) (h : x < 18446744073709551616) : Lib.ctz 64 x < 64 ∧ x.testBit (Lib.ctz 64 x) = true ∧ ∀ j, j < Lib.ctz 64 x → x.testBit j = false := by
  obtain ⟨m, h1, h2⟩ := Lib.ctzFrom_spec 64 x (by omega) (by rw [show (2 : Nat) ^ 64 = 18446744073709551616 by decide]; exact h)
  have e : Lib.ctz 64 x = Lib.ctzFrom 64 x := by unfold Lib.ctz; rw [if_neg h0]
  rw [e]
  refine ⟨h2, ?_, fun j hj => ?_⟩
  · generalize Lib.ctzFrom 64 x = c at h1
    rw [h1, Nat.testBit_two_pow_mul]; simp
  · generalize Lib.ctzFrom 64 x = c at h1 hj
    rw [h1, Nat.testBit_two_pow_mul]; simp; omega

theorem and_word (a m : Nat) (ha : a < 18446744073709551616) (hm : m < 18446744073709551616) (x y : Int) (hx : x = a) (hy : y = m) : bits .and .u64 x y = ((a &&& m : Nat) : Int) := by
  subst hx; subst hy
  exact u64_and_nat a m ha hm
theorem wrap_word (s : Int) (t : Nat) (h : s = t) (ht : t < 18446744073709551616) : IntKind.u64.wrap s = (t : Int) := by
  rw [IntKind.wrap_u64]; omega
theorem div_nat (a k : Nat) : ((a : Int) / (k : Int)) = ((a / k : Nat) : Int) := by simp
theorem and127 (x : Nat) : bits .and .i64 (wrap64 (x : Int)) 127 = ((x % 128 : Nat) : Int) := by
  show IntKind.i64.wrap ((BitVec.ofInt 64 (wrap64 (x : Int)) &&& BitVec.ofInt 64 127).toNat : Int) = _
  rw [BitVec.toNat_and, BitVec.toNat_ofInt, show (BitVec.ofInt 64 127).toNat = 2 ^ 7 - 1 from by decide, Nat.and_two_pow_sub_one_eq_mod, IntKind.wrap_i64]
  unfold wrap64
  omega
set_option maxHeartbeats 1000000 in
theorem ones_any (x : Nat) (hx : x < 18446744073709551616) (w : World) :
    Calls Tryd.prog 32 #[.int .u64 x] w fun e w' => e = .returned (.int .i64 (pop x)) ∧ w = w' := by
  obtain ⟨b1, b2, b3, b4, b5, b6, b7⟩ := ones_eq x hx _ _ _ _ _ _ rfl rfl rfl rfl rfl rfl
  generalize g1 : (x / 2 &&& 6148914691236517205) + (x &&& 6148914691236517205) = x1 at *
  generalize g2 : (x1 / 4 &&& 3689348814741910323) + (x1 &&& 3689348814741910323) = x2 at *
  generalize g3 : (x2 / 16 + x2) &&& 1085102592571150095 = x3 at *
  generalize g4 : x3 + x3 / 256 = x4 at *
  generalize g5 : x4 + x4 / 65536 = x5 at *
  generalize g6 : x5 + x5 / 4294967296 = x6 at *
  have E1 : IntKind.u64.wrap (bits .and .u64 ((x : Int) / 2) 6148914691236517205 + bits .and .u64 (x : Int) 6148914691236517205) = (x1 : Int) := by
    rw [and_word (x / 2) 6148914691236517205 (by omega) (by omega) ((x : Int) / 2) 6148914691236517205 (div_nat x 2) rfl, and_word x 6148914691236517205 hx (by omega) (x : Int) 6148914691236517205 rfl rfl]
    exact wrap_word _ _ (by rw [← g1]; simp) b1
  have E2 : IntKind.u64.wrap (bits .and .u64 ((x1 : Int) / 4) 3689348814741910323 + bits .and .u64 (x1 : Int) 3689348814741910323) = (x2 : Int) := by
    rw [and_word (x1 / 4) 3689348814741910323 (by omega) (by omega) ((x1 : Int) / 4) 3689348814741910323 (div_nat x1 4) rfl, and_word x1 3689348814741910323 b1 (by omega) (x1 : Int) 3689348814741910323 rfl rfl]
    exact wrap_word _ _ (by rw [← g2]; simp) (by omega)
  have E3 : bits .and .u64 (IntKind.u64.wrap ((x2 : Int) / 16 + (x2 : Int))) 1085102592571150095 = (x3 : Int) := by
    rw [wrap_word ((x2 : Int) / 16 + (x2 : Int)) (x2 / 16 + x2) (by simp) (by omega), and_word (x2 / 16 + x2) 1085102592571150095 (by omega) (by omega) ((x2 / 16 + x2 : Nat) : Int) 1085102592571150095 rfl rfl, g3]
  have E4 : IntKind.u64.wrap ((x3 : Int) + (x3 : Int) / 256) = (x4 : Int) := wrap_word _ _ (by rw [← g4]; simp) b4
  have E5 : IntKind.u64.wrap ((x4 : Int) + (x4 : Int) / 65536) = (x5 : Int) := wrap_word _ _ (by rw [← g5]; simp) b5
  have E6 : IntKind.u64.wrap ((x5 : Int) + (x5 : Int) / 4294967296) = (x6 : Int) := wrap_word _ _ (by rw [← g6]; simp) b6
  have HE1 := hide E1
  have HE2 := hide E2
  have HE3 := hide E3
  have HE4 := hide E4
  have HE5 := hide E5
  have HE6 := hide E6
  have HB7 := hide b7
  clear E1 E2 E3 E4 E5 E6 b7
  clear g1 g2 g3 g4 g5 g6
  go_enter Tryd.func32, Tryd.ntmps32
  go_wp2_with fail
  simp only [HE1.out, HE2.out, HE3.out, HE4.out, HE5.out, HE6.out]
  go_ret
  have b7 := HB7.out
  rw [and127 x6, ← b7]
  exact ⟨rfl, rfl⟩
end Go.Proofs.YtoghdhjeopcjkaaDoor
