/- ExtentsAreas: the walk: whatever the three numbers, it answers true. Conditions: numbers of an int. -/
import Derived.Test.YtoghdhjeopcjkaaShape
namespace Go.Proofs.Ytoghdhjeopcjkaa
open Go.RowKit Go.Deep

theorem span_neq (a b c d : Int) (w : World) : (binOp .neq 31 (.agg #[.int .i64 a, .int .i64 b]) (.agg #[.int .i64 c, .int .i64 d])).run Try.prog w = .ok (.bool (!((a == c) && (b == d)))) w := by
  cases h1 : (a == c) <;> cases h2 : (b == d) <;> simp [go_sem, h1, h2, Try.underlying31, Try.underlying3]
theorem span_eql (a b c d : Int) (w : World) : (binOp .eql 31 (.agg #[.int .i64 a, .int .i64 b]) (.agg #[.int .i64 c, .int .i64 d])).run Try.prog w = .ok (.bool ((a == c) && (b == d))) w := by
  cases h1 : (a == c) <;> cases h2 : (b == d) <;> simp [go_sem, h1, h2, Try.underlying31, Try.underlying3]
theorem or64 (c : Int) : bits .or .i64 c 64 < 0 ∨ 64 ≤ bits .or .i64 c 64 := by
  obtain ⟨n, e, h1, h2⟩ : ∃ n : Nat, bits .or .i64 c 64 = IntKind.i64.wrap (n : Int) ∧ 64 ≤ n ∧ n < 18446744073709551616 := by
    refine ⟨(BitVec.ofInt 64 c ||| BitVec.ofInt 64 64).toNat, rfl, ?_, (BitVec.ofInt 64 c ||| BitVec.ofInt 64 64).isLt⟩
    rw [BitVec.toNat_or]
    exact Nat.le_trans (by decide) Nat.right_le_or
  rw [e, IntKind.wrap_i64]
  omega
theorem or64' (c : Int) {n : Nat} (h : n ≤ 8) : bits .or .i64 c 64 < 0 ∨ (n : Int) ≤ bits .or .i64 c 64 := by have := or64 c; omega
/-- A shape lies in block b. -/
def ShAt (w : World) (b : Nat) (S : Sh) : Prop := w.heap[b]? = some (.cells #[.int .i64 S.pages, .int .i64 S.inodes, .int .i64 S.cores, .int .i64 S.data] 23 (0, 0))
theorem ShAt.cells {w : World} {b : Nat} {S : Sh} (h : ShAt w b S) : w.cell? ⟨b, 0, none⟩ = some (.int .i64 S.pages) ∧ w.cell? ⟨b, 1, none⟩ = some (.int .i64 S.inodes) ∧ w.cell? ⟨b, 2, none⟩ = some (.int .i64 S.cores) ∧ w.cell? ⟨b, 3, none⟩ = some (.int .i64 S.data) := blk4 h
theorem ShAt.keep {L : List Nat} {w w' : World} {b : Nat} {S : Sh} (h : ShAt w b S) (k : Kp L w w') (hb : b ∉ L) : ShAt w' b S := k.blk h hb

theorem goodTo_nil (S : Sh) : goodTo S [] 0 := fun j hj => by omega

set_option maxHeartbeats 2000000 in
set_option maxRecDepth 100000 in
theorem areas_walk (p i c : Int) (hp : I64 p) (hi : I64 i) (hc : I64 c) (w : World) :
    Calls Try.prog 3 #[.int .i64 p, .int .i64 i, .int .i64 c] w fun e w' => e = .returned (.bool true) ∧ Kp [] w w' := by
  have ok := shp_ok p i c
  obtain ⟨S, hS⟩ : ∃ S, S = shp p i c := ⟨_, rfl⟩
  rw [← hS] at ok
  have o1 := ok.p2; have o2 := ok.c1; have o3 := ok.c2; have o4 := ok.d2
  have seq := span_eql
  have HP := hide hp
  have HI := hide hi
  have HC := hide hc
  have HS := hide hS
  have OK := hide ok
  clear hp hi hc hS ok
  go_enter Try.func3, Try.ntmps3
  go_wp2_with fail
  refine (shape_any _ _ _ HP.out HI.out HC.out _).mono ?_
  rw [← HS.out]
  rintro e w1 ⟨rfl, hk1⟩
  go_wp2_with fail
  refine (newPool_any S OK.out _ [] _ (RdS.nil _) (by simp)).mono ?_
  rintro e w2 ⟨hk2, ⟨_, pb, wb, cap, rfl, hpb, hwb, hpool⟩ | ⟨hno, _⟩⟩
  case inr => exact absurd (goodTo_nil S) hno
  have hsh : ShAt w2 w1.heap.size S := hk2.blk (blk_new _ _) (by simp)
  have hkw : Kp [] w w2 := (hk1.alloc _).trans' hk2
  have hsl := blk_lt hsh
  obtain ⟨s0, s1, s2, s3⟩ := hsh.cells
  have hon : onOf [] ([] : Sps).length = fun _ => false := rfl
  rw [hon] at hpool
  have hc0 : cnt (fun _ => false) S.pages = 0 := by
    generalize S.pages = n
    induction n with
    | zero => rfl
    | succ n ih => simp [cnt, ih]
  have HPOOL := hide hpool
  have HKW := hide hkw
  have HSH := hide hsh
  have HC0 := hide hc0
  clear hpool hkw hsh hc0
  clear hk1 hk2 hpb hwb hon
  obtain ⟨lw, hlw⟩ : ∃ lw : Nat, (S.pages - S.data) / S.cores = lw := ⟨_, rfl⟩
  have hlw2 : ((S.pages : Int) - (S.data : Int)) / (S.cores : Int) = (lw : Int) := by rw [← hlw, Int.natCast_ediv]; congr 1; omega
  have hlw3 : lw ≤ 1024 := by rw [← hlw]; exact Nat.le_trans (Nat.div_le_self _ _) (by omega)
  have HLW := hide hlw
  have HLW2 := hide hlw2
  clear hlw hlw2
  go_wp2_with fail
  refine (pFree_any HPOOL.out).mono ?_
  rw [HC0.out]
  rintro e w3 ⟨rfl, rfl⟩
  go_wp2_with fail
  rw [HLW2.out]
  go_loopw [10, 12] (fun at_ i wr => ∃ k F : Nat, k ≤ S.cores ∧ i = .int .i64 k ∧ at_ = .int .i64 F ∧ S.lo k = F ∧ Kp [] w2 wr) (fun _ i _ => S.cores - (intOf i).toNat)
  case atStart => exact ⟨0, S.data, by omega, rfl, rfl, Sh.lo_zero S, Kp.refl _ _⟩
  case round =>
    obtain ⟨k, F, hk, rfl, rfl, hF, hkr⟩ := hrel
    have hp1 := HPOOL.out.keep hkr (by simp) (by simp)
    obtain ⟨r0, r1, r2, r3⟩ := (HSH.out.keep hkr (by simp)).cells
    have hrl := hkr.size
    by_cases hlt : k < S.cores
    · have hst := Sh.lo_step OK.out k
      have hlm := Sh.lo_lt OK.out k
      have hlb := Sh.lo_bd OK.out (k + 1) (by omega)
      obtain ⟨C, hC⟩ : ∃ C, S.lo (k + 1) = F + C := ⟨S.lo (k + 1) - F, by omega⟩
      rw [hF] at hst hlm
      rw [hC] at hst hlm hlb
      rw [HLW.out] at hst
      have hc1 : lw ≤ C := by omega
      have hc2 : C ≤ lw + 1 := by omega
      have HP1 := hide hp1
      have HKR := hide hkr
      have HFF := hide hF
      have HCC := hide hC
      clear hp1 hkr hF hC
      clear hst hlm
      go_wp2_with fail
      refine (pArea_as HP1.out _ k F C rfl hlt HFF.out HCC.out).mono ?_
      rintro e w3 ⟨rfl, hk3⟩
      have hk4 : Kp [] w2 w3 := HKR.out.trans' hk3
      obtain ⟨r0, r1, r2, r3⟩ := (HSH.out.keep hk4 (by simp)).cells
      have hp3 := HP1.out.keep hk3 (by simp) (by simp)
      have hl3 := hk4.size
      have HK4 := hide hk4
      have HP3 := hide hp3
      clear hk4 hp3
      clear hk3
      go_wp2_with fail
      refine (pCore_in (HP3.out.keep ((Kp.refl [] _).alloc _) (by simp) (by simp)) _ k rfl hlt).mono ?_
      rintro e w4 ⟨v, rfl, hown, hk5⟩
      rw [runs_none _ _ _ (fun _ _ _ => rfl)] at hown
      have hb4 := blk2 (hk5.blk (blk_new _ _) (by simp))
      obtain ⟨z0, z1⟩ := hb4
      have hk6 : Kp [] w2 w4 := (HK4.out.alloc _).trans' hk5
      obtain ⟨r0, r1, r2, r3⟩ := (HSH.out.keep hk6 (by simp)).cells
      have HK6 := hide hk6
      clear hk6
      rcases hown.cases with ⟨rfl, _⟩ | ⟨g, cp, hv, _⟩
      rotate_left
      · simp only [List.length_nil] at hv
        subst hv
        clear hown hk5
        go_wp2_with fail
        go_roundw
        case rel => exact ⟨k + 1, F + C, by omega, by go_num, by go_num, HCC.out, HK6.out⟩
        case measure => simp [intOf]; omega
      · clear hown hk5
        go_wp2_with fail
        go_roundw
        case rel => exact ⟨k + 1, F + C, by omega, by go_num, by go_num, HCC.out, HK6.out⟩
        case measure => simp [intOf]; omega
    · have hkc : k = S.cores := by omega
      have hF2 : F = S.pages := by rw [← hF, hkc]; exact Sh.lo_last OK.out
      subst hF2
      clear hF hkc
      have HKR := hide hkr
      have HP1 := hide hp1
      clear hkr hp1
      go_wp2_with fail
      have hk7 : Kp [] w2 (wr.alloc (.cells #[.int .i64 0, .int .i64 0] 31)) := HKR.out.alloc _
      have t0 := HSH.out.keep hk7 (by simp)
      have c1 := t0.cells
      have hz := blk_new wr (.cells #[.int .i64 0, .int .i64 0] 31)
      go_region_held3 (fun w' => w'.cell? ⟨w1.heap.size, 0, none⟩ = some (.int .i64 S.pages) ∧ w'.cell? ⟨w1.heap.size, 2, none⟩ = some (.int .i64 S.cores) ∧ w'.cell? ⟨wr.heap.size, 0, none⟩ = some (.int .i64 0) ∧ w'.cell? ⟨wr.heap.size, 1, none⟩ = some (.int .i64 0) ∧ Kp [] (wr.alloc (.cells #[.int .i64 0, .int .i64 0] 31)) w')
        (first | exact ⟨u0, u2, v0, v1, hkn⟩ | exact ⟨c1.1, c1.2.2.1, (blk2 (blk_new _ _)).1, (blk2 (blk_new _ _)).2, (Kp.refl _ _).drew⟩)
        (first
          | (go_at_call 16; refine (pArea_out (HP1.out.keep ((Kp.refl [] _).alloc _ |>.drew) (by simp) (by simp)) _ ?_).mono ?_; (first | omega | exact or64' _ o3); rintro e w9 ⟨rfl, hk9⟩; have hkn := ((Kp.refl [] (wr.alloc (.cells #[.int .i64 0, .int .i64 0] 31))).drew).trans' hk9; have t9 := (t0.keep hkn (by simp)).cells; have u0 := t9.1; have u2 := t9.2.2.1; have v9 := blk2 (hkn.blk hz (by simp)); have v0 := v9.1; have v1 := v9.2)
          | (go_at_call 16; refine (pArea_out (HP1.out.keep ((Kp.refl [] _).alloc _ |>.trans' hkn) (by simp) (by simp)) _ ?_).mono ?_; (first | omega | exact or64' _ o3); rintro e w9 ⟨rfl, hk9⟩; have hkn := hkn.trans' hk9; have t9 := (t0.keep hkn (by simp)).cells; have u0 := t9.1; have u2 := t9.2.2.1; have v9 := blk2 (hkn.blk hz (by simp)); have v0 := v9.1; have v1 := v9.2))
      have HKN := hide hkn
      clear hkn
      clear u0 u2 v0 v1 t9 v9 c1 t0 hz hk9
      go_wp2
      go_ret
      exact ⟨rfl, HKW.out.trans' (HKR.out.trans' (((Kp.refl [] wr).alloc _).trans' HKN.out))⟩
end Go.Proofs.Ytoghdhjeopcjkaa
