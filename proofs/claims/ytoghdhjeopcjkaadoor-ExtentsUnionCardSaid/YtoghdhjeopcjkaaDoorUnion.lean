
/- ExtentsUnion: the walk. Conditions: two slices of numbers that are read; the library's table lies in block 0. -/
import Derived.Test.YtoghdhjeopcjkaaDoorUnionP
namespace Go.Proofs.YtoghdhjeopcjkaaDoor
open Go.RowKit Go.Deep

/-- A slice of numbers, as it lies. -/
def SlQ (w : World) (a : Option Addr) (n : Nat) (q : Nat → Int) : Prop := n = 0 ∨ ∃ g o, a = some ⟨g, o, none⟩ ∧ ∀ i, i < n → w.cell? ⟨g, o + i, none⟩ = some (.int .i64 (q i))
theorem SlQ.at_ {W w : World} {a : Option Addr} {n : Nat} {q : Nat → Int} (h : SlQ W a n q) (k : Kp [] W w) {i : Nat} (hi : i < n) : ∃ g o, a = some ⟨g, o, none⟩ ∧ w.cell? ⟨g, o + i, none⟩ = some (.int .i64 (q i)) ∧ g < W.heap.size := by
  rcases h with rfl | ⟨g, o, rfl, h⟩
  · omega
  · exact ⟨g, o, rfl, k.cell (h i hi) (by simp), World.block_lt_of_cell? W _ (h i hi)⟩

set_option maxHeartbeats 8000000 in
set_option maxRecDepth 100000 in
theorem union_walk (n : Int) (na ca nb cb : Nat) (aa ab : Option Addr) (qa qb : Nat → Int) (W : World) (hn : I64 n) (hna : na ≤ 140737488355328) (hnb : nb ≤ 140737488355328) (ha : SlQ W aa na qa) (hb : SlQ W ab nb qb) (hT : TabOk W) (hpos : 0 < W.heap.size) :
    Calls Tryd.prog 4 #[.int .i64 n, .slice aa na ca, .slice ab nb cb] W fun e w' => e = .returned (.bool true) ∧ Kp [] W w' := by
  obtain ⟨Q, hQ⟩ : ∃ Q : Ending → World → Prop, Q = fun e w' => e = .returned (.bool true) ∧ Kp [] W w' := ⟨_, rfl⟩
  rw [← hQ]
  have l1 := Int.emod_nonneg n (show (80 : Int) ≠ 0 by omega)
  have l2 := Int.emod_lt_of_pos n (show (0 : Int) < 80 by omega)
  obtain ⟨k, hk⟩ := Int.eq_ofNat_of_zero_le l1
  have hk2 : k < 80 := by omega
  obtain ⟨n1, n2⟩ := hn
  have l3 := Int.emod_nonneg (n.tdiv 80) (show (3 : Int) ≠ 0 by omega)
  have l4 := Int.emod_lt_of_pos (n.tdiv 80) (show (0 : Int) < 3 by omega)
  have hp1 : n.tdiv 80 ≤ 9223372036854775807 ∧ -9223372036854775808 ≤ n.tdiv 80 := by
    have e : Int.sign 80 = 1 := rfl
    rw [Int.tdiv_eq_ediv, e]
    split <;> omega
  obtain ⟨p, hp⟩ := Int.eq_ofNat_of_zero_le l3
  have hp2 : p < 3 := by omega
  have hpl := fun W => place_any n 80 (by omega) (by omega) ⟨by omega, by omega⟩ W
  have hpl2 := fun W => place_any (n.tdiv 80) 3 (by omega) (by omega) hp1 W
  rw [hk] at hpl
  rw [hp] at hpl2
  obtain ⟨m, hm⟩ : ∃ m : Nat, mn (mx ((k : Int) + (p : Int) - 1) 0) 1024 = (m : Int) := ⟨(mn (mx ((k : Int) + (p : Int) - 1) 0) 1024).toNat, by have := mn_le (mx ((k : Int) + (p : Int) - 1) 0) 1024; have := mx_le ((k : Int) + (p : Int) - 1) 0; omega⟩
  have hkm : mn (mx (k : Int) 0) 1024 = (k : Int) := by have := mn_le (mx (k : Int) 0) 1024; have := mx_le (k : Int) 0; omega
  have hm2 : m ≤ 1024 := by have := mn_le (mx ((k : Int) + (p : Int) - 1) 0) 1024; omega
  have HQ := hide hQ
  have HPL := hide hpl
  have HPL2 := hide hpl2
  have HM := hide hm
  have HKM := hide hkm
  have HA := hide ha
  have HB := hide hb
  have HT := hide hT
  clear hQ hpl hpl2 hm hkm ha hb hT
  clear l1 l2 l3 l4 hk hp hp1
  go_enter Tryd.func4, Tryd.ntmps4
  go_wp2_with fail
  refine (HPL.out _).mono ?_
  rintro e w0 ⟨rfl, rfl⟩
  go_wp2_with fail
  refine (newBitmap_any _ k HKM.out _).mono ?_
  rintro e w1 ⟨b1, wb1, cp1, rfl, hb1, hw1, hm1, hk1⟩
  have HM1 := hide hm1
  have HK1 := hide hk1
  clear hm1 hk1
  go_wp2_with fail
  refine (HPL2.out _).mono ?_
  rintro e w0 ⟨rfl, rfl⟩
  go_wp2_with fail
  refine (newBitmap_any _ m HM.out _).mono ?_
  rintro e w2 ⟨b2, wb2, cp2, rfl, hb2, hw2, hm2b, hk2b⟩
  have HM2 := hide hm2b
  have HK2 := hide hk2b
  clear hm2b hk2b
  go_wp2_with fail
  refine (first_any _).mono ?_
  rintro e w3 ⟨rfl, hk3⟩
  have hmk := run_make_row' (P := Tryd.prog) 45 4 (.bool false) 1 Tryd.underlying45 Tryd.info_bool rfl .i64 .i64 k (by omega) (by omega)
  have hs1 := HK1.out.size
  have hs2 := HK2.out.size
  have hs3 := hk3.size
  have hb1l := HM1.out.lt
  have hw1l := HM1.out.wlt
  have hb1n := HM1.out.ne
  have hb2l := HM2.out.lt
  have hw2l := HM2.out.wlt
  have HK3 := hide hk3
  clear hk3
  go_wp2_with fail
  clear hmk
  have hrow : RowN (w3.alloc (.cells (madeCells #[.bool false] k) 4)) w3.heap.size k (fun _ => false) := ⟨_, blk_new _ _, fun i hi => made_at _ _ _ hi⟩
  have hk4 : Kp [] w3 (w3.alloc (.cells (madeCells #[.bool false] k) 4)) := (Kp.refl _ _).alloc _
  generalize w3.alloc (.cells (madeCells #[.bool false] k) 4) = w4 at hrow hk4 ⊢
  generalize hhb : w3.heap.size = hb at hrow ⊢
  have hrl := hrow.lt
  have hs4 := hk4.size
  have hx4 := (HM1.out.keep HK2.out (by simp) (by simp)).keep (HK3.out.trans' hk4) (by simp) (by simp)
  have hy4 := HM2.out.keep (HK3.out.trans' hk4) (by simp) (by simp)
  have hkw4 : Kp [] W w4 := HK1.out.trans' (HK2.out.trans' (HK3.out.trans' hk4))
  have hne : b1 ≠ hb ∧ wb1 ≠ hb ∧ b2 ≠ hb ∧ wb2 ≠ hb ∧ b1 ≠ b2 ∧ b1 ≠ wb2 ∧ wb1 ≠ b2 ∧ wb1 ≠ wb2 := by omega
  have hlo : W.heap.size ≤ b1 ∧ W.heap.size ≤ wb1 ∧ W.heap.size ≤ b2 ∧ W.heap.size ≤ wb2 ∧ W.heap.size ≤ hb := by omega
  obtain ⟨ne1, ne2, ne3, ne4, ne5, ne6, ne7, ne8⟩ := hne
  obtain ⟨lo1, lo2, lo3, lo4, lo5⟩ := hlo
  have HX4 := hide hx4
  have HY4 := hide hy4
  have HR4 := hide hrow
  have HKW4 := hide hkw4
  clear hx4 hy4 hrow hkw4
  clear hk4 hs1 hs2 hs3 hs4 hb1l hw1l hb2l hw2l hrl hhb hb1 hw1 hb2 hw2
  go_loopw [13] (fun i wr => ∃ j : Nat, j ≤ na ∧ i = .int .i64 j ∧ BmAt wr b1 wb1 cp1 k (onL k qa j) ∧ BmAt wr b2 wb2 cp2 m (fun _ => false) ∧ RowN wr hb k (onL k qa j) ∧ Kp [] W wr) (fun i _ => na - (intOf i).toNat)
  case atStart => exact ⟨0, by omega, rfl, HX4.out, HY4.out, HR4.out, HKW4.out⟩
  case round =>
    obtain ⟨j, hj, rfl, hx, hy, hr, hkr⟩ := hrel
    by_cases hlt : j < na
    · obtain ⟨g, o, rfl, hq, hgl⟩ := HA.out.at_ hkr hlt
      have hset := bmSet_all hx (qa j)
      obtain ⟨q, hqe⟩ : ∃ q, qa j = q := ⟨_, rfl⟩
      have hon : onL k qa (j + 1) = setP k (onL k qa j) q := by rw [← hqe]; rfl
      rw [hqe] at hq hset
      have hlt1 : (j : Int) < (na : Int) := by omega
      have HX := hide hx
      have HY := hide hy
      have HR := hide hr
      have HKR := hide hkr
      have HSET := hide hset
      have HON := hide hon
      clear hx hy hr hkr hset hon
      clear hqe
      go_wp2_with fail
      refine HSET.out.mono ?_
      rintro e w5 ⟨rfl, hx5, hk5⟩
      have hy5 := HY.out.keep hk5 (by simp; omega) (by simp; omega)
      have hr5 := HR.out.keep hk5 (by simp; omega)
      have hkw5 := (HKR.out.trans (T := [b1, wb1]) hk5 (by simp; omega))
      replace hq := hk5.cell hq (by simp; omega)
      have HX5 := hide hx5
      have HY5 := hide hy5
      have HR5 := hide hr5
      have HKW5 := hide hkw5
      clear hx5 hy5 hr5 hkw5
      clear hk5
      by_cases t1 : 0 ≤ q ∧ q < (k : Int)
      · obtain ⟨t1, t2⟩ := t1
        obtain ⟨q, rfl⟩ := Int.eq_ofNat_of_zero_le t1
        have d1 : decide ((0 : Int) ≤ (q : Int)) = true := by simp
        have hqk : q < k := by omega
        have hrq := HR5.out.cell hqk
        have hrf := HR5.out.f q
        obtain ⟨t, ht⟩ : ∃ t, onL k qa j q = t := ⟨_, rfl⟩
        have hc : setC k (onL k qa j) (q : Int) = !t := by simp only [setC]; rw [d1, show decide ((q : Int) < (k : Int)) = true by simpa using t2, Int.toNat_natCast, ht]; simp
        have hp : setP k (onL k qa j) (q : Int) = put (onL k qa j) q true := by simp only [setP]; rw [if_pos ⟨t1, t2⟩, Int.toNat_natCast]
        rw [ht] at hrq
        rw [hc]
        have hr6 := HR5.out.set q true
        have hx6 := HX5.out
        rw [hp] at hx6
        have hk6 : Kp [hb] w5 (w5.setCell ⟨hb, q, none⟩ (.bool true)) := (Kp.refl _ _).set (by simp) _
        have hx7 := hx6.keep hk6 (by simp; omega) (by simp; omega)
        have hy7 := HY5.out.keep hk6 (by simp; omega) (by simp; omega)
        have hk7 : Kp [] W (w5.setCell ⟨hb, q, none⟩ (.bool true)) := HKW5.out.trans (T := [hb]) hk6 (by simp; omega)
        have hon2 : onL k qa (j + 1) = put (onL k qa j) q true := HON.out.trans hp
        rw [← hon2] at hx7 hr6
        have HX7 := hide hx7
        have HY7 := hide hy7
        have HR7 := hide hr6
        have HK7 := hide hk7
        have HT1 := hide ht
        clear hx7 hy7 hr6 hk7 ht
        clear hc hp hx6 hk6 hon2
        cases t with
        | true =>
          go_wp2_with fail
          go_roundw
          case rel => exact ⟨j + 1, by omega, by go_num, HX7.out, HY7.out, HR7.out, HK7.out⟩
          case measure => simp [intOf]; omega
        | false =>
          go_wp2_with fail
          go_roundw
          case rel => exact ⟨j + 1, by omega, by go_num, HX7.out, HY7.out, HR7.out, HK7.out⟩
          case measure => simp [intOf]; omega
      · have hc : setC k (onL k qa j) q = false := by
          simp only [setC]
          by_cases h0 : 0 ≤ q
          · rw [show decide (q < (k : Int)) = false by simp; omega]; simp
          · rw [show decide (0 ≤ q) = false by simpa using h0]; simp
        have hp : setP k (onL k qa j) q = onL k qa j := if_neg t1
        have hon2 : onL k qa (j + 1) = onL k qa j := HON.out.trans hp
        have hx6 := HX5.out
        rw [hp, ← hon2] at hx6
        have hr6 := HR5.out
        rw [← hon2] at hr6
        rw [hc]
        have HX7 := hide hx6
        have HR7 := hide hr6
        clear hx6 hr6
        clear hc hp hon2
        by_cases t2 : 0 ≤ q
        · have d1 : decide ((0 : Int) ≤ q) = true := by simpa using t2
          have d2 : decide (q < (k : Int)) = false := by simp; omega
          clear t1
          go_wp2_with fail
          go_roundw
          case rel => exact ⟨j + 1, by omega, by go_num, HX7.out, HY5.out, HR7.out, HKW5.out⟩
          case measure => simp [intOf]; omega
        · have d1 : decide ((0 : Int) ≤ q) = false := by simpa using t2
          clear t1
          go_wp2_with fail
          go_roundw
          case rel => exact ⟨j + 1, by omega, by go_num, HX7.out, HY5.out, HR7.out, HKW5.out⟩
          case measure => simp [intOf]; omega
    · obtain rfl : j = na := by omega
      obtain ⟨fx, hfx⟩ : ∃ fx, onL k qa j = fx := ⟨_, rfl⟩
      have hfo : ∀ i, k ≤ i → fx i = false := by rw [← hfx]; exact onL_off k qa j
      rw [hfx] at hx hr
      have HX := hide hx
      have HY := hide hy
      have HR := hide hr
      have HKR := hide hkr
      have HFO := hide hfo
      clear hx hy hr hkr hfo
      clear hfx
      go_wp2_with fail
      go_loopw [16] (fun i wr => ∃ t : Nat, t ≤ nb ∧ i = .int .i64 t ∧ BmAt wr b1 wb1 cp1 k fx ∧ BmAt wr b2 wb2 cp2 m (onL m qb t) ∧ RowN wr hb k fx ∧ Kp [] W wr) (fun i _ => nb - (intOf i).toNat)
      case atStart => exact ⟨0, by omega, rfl, HX.out, HY.out, HR.out, HKR.out⟩
      case round =>
        obtain ⟨t, ht, rfl, hx, hy, hr, hkr⟩ := hrel
        by_cases hlt : t < nb
        · obtain ⟨g, o, rfl, hq, hgl⟩ := HB.out.at_ hkr hlt
          have hset := bmSet_all hy (qb t)
          obtain ⟨q, hqe⟩ : ∃ q, qb t = q := ⟨_, rfl⟩
          have hon : onL m qb (t + 1) = setP m (onL m qb t) q := by rw [← hqe]; rfl
          rw [hqe] at hq hset
          have hlt1 : (t : Int) < (nb : Int) := by omega
          have HX := hide hx
          have HY := hide hy
          have HR := hide hr
          have HKR := hide hkr
          have HSET := hide hset
          have HON := hide hon
          clear hx hy hr hkr hset hon
          clear hqe
          go_wp2_with fail
          refine HSET.out.mono ?_
          rintro e w5 ⟨rfl, hy5, hk5⟩
          rw [← HON.out] at hy5
          have hx5 := HX.out.keep hk5 (by simp; omega) (by simp; omega)
          have hr5 := HR.out.keep hk5 (by simp; omega)
          have hkw5 := (HKR.out.trans (T := [b2, wb2]) hk5 (by simp; omega))
          have HX5 := hide hx5
          have HY5 := hide hy5
          have HR5 := hide hr5
          have HKW5 := hide hkw5
          clear hx5 hy5 hr5 hkw5
          clear hk5 hq
          go_wp2_with fail
          go_roundw
          case rel => exact ⟨t + 1, by omega, by go_num, HX5.out, HY5.out, HR5.out, HKW5.out⟩
          case measure => simp [intOf]; omega
        · obtain rfl : t = nb := by omega
          obtain ⟨fy, hfy⟩ : ∃ fy, onL m qb t = fy := ⟨_, rfl⟩
          have hfyo : ∀ i, m ≤ i → fy i = false := by rw [← hfy]; exact onL_off m qb t
          rw [hfy] at hy
          obtain ⟨had, hhad⟩ : ∃ had, cnt fy m = had := ⟨_, rfl⟩
          have HX := hide hx
          have HY := hide hy
          have HR := hide hr
          have HKR := hide hkr
          have HFYO := hide hfyo
          have HHAD := hide hhad
          clear hx hy hr hkr hfyo hhad
          clear hfy
          go_wp2_with fail
          refine (bmCount_any HY.out).mono ?_
          rintro e w6 ⟨rfl, rfl⟩
          rw [HHAD.out]
          go_wp2_with fail
          have hr0 : RowN wr hb k (joinTo fx fy 0) := by rw [joinTo_zero]; exact HR.out
          have HR0 := hide hr0
          clear hr0
          go_loopw [11, 18] (fun v i wr => ∃ (t : Nat) (u : Int), t ≤ k ∧ i = .int .i64 t ∧ v = .int .i64 u ∧ IsLeast (bothOn fx fy) t u ∧ BmAt wr b1 wb1 cp1 k fx ∧ BmAt wr b2 wb2 cp2 m fy ∧ RowN wr hb k (joinTo fx fy t) ∧ Kp [] W wr) (fun _ i _ => k - (intOf i).toNat)
          case atStart => exact ⟨0, -1, by omega, rfl, rfl, .inl ⟨rfl, fun i hi => by omega⟩, HX.out, HY.out, HR0.out, HKR.out⟩
          case round =>
            obtain ⟨t, u, ht, rfl, rfl, hle, hx, hy, hr, hkr⟩ := hrel
            by_cases hlt : t < k
            · have hrt := hr.cell hlt
              have hrf := hr.f t
              rw [joinTo_at] at hrt
              obtain ⟨p1, hp1⟩ : ∃ p1, fx t = p1 := ⟨_, rfl⟩
              obtain ⟨p2, hp2⟩ : ∃ p2, fy t = p2 := ⟨_, rfl⟩
              have hhas : ∀ w', BmAt w' b2 wb2 cp2 m fy → Calls Tryd.prog 11 #[.pointer (some ⟨b2, 0, none⟩), .int .i64 t] w' fun e w'' => e = .returned (.bool p2) ∧ ∃ z, w'' = w'.drewN z := fun w' h' => by
                have h9 := bmHas_any h' t
                rw [show (decide ((0 : Int) ≤ (t : Int)) && fy (t : Int).toNat) = p2 by simp [hp2]] at h9
                exact h9
              have hln := isLeast_next hle
              have hjn := joinTo_succ fx fy t
              rw [hp1, hp2] at hln hjn
              rw [hp1] at hrt
              have hlt1 : (t : Int) < (k : Int) := by omega
              have HHAS := hide hhas
              have HLN := hide hln
              have HJN := hide hjn
              have HX6 := hide hx
              have HY6 := hide hy
              have HR6 := hide hr
              have HKR6 := hide hkr
              have HP1 := hide hp1
              have HP2 := hide hp2
              clear hhas hln hjn hx hy hr hkr hp1 hp2
              clear hle
              cases p1 with
              | false =>
                go_wp2_with fail
                refine (HHAS.out _ HY6.out).mono ?_
                rintro e w7 ⟨rfl, z, rfl⟩
                have hk7 : Kp [hb] wr ((wr.drewN z).setCell ⟨hb, t, none⟩ (.bool p2)) := ((Kp.refl _ _).drewN z).set (by simp) _
                have hx7 := HX6.out.keep hk7 (by simp; omega) (by simp; omega)
                have hy7 := HY6.out.keep hk7 (by simp; omega) (by simp; omega)
                have hr7 := ((HR6.out.keep ((Kp.refl [] _).drewN z) (by simp)).set t p2)
                have hkw7 : Kp [] W ((wr.drewN z).setCell ⟨hb, t, none⟩ (.bool p2)) := HKR6.out.trans (T := [hb]) hk7 (by simp; omega)
                have hj := HJN.out
                rw [Bool.false_or] at hj
                rw [hj] at hr7
                have hl := HLN.out
                rw [Bool.false_and, Bool.false_and, if_neg (by simp)] at hl
                have HX7 := hide hx7
                have HY7 := hide hy7
                have HR7 := hide hr7
                have HK7 := hide hkw7
                have HL7 := hide hl
                clear hx7 hy7 hr7 hkw7 hl
                clear hk7 hj
                go_wp2_with fail
                go_roundw
                case rel => exact ⟨t + 1, u, by omega, by go_num, rfl, HL7.out, HX7.out, HY7.out, HR7.out, HK7.out⟩
                case measure => simp [intOf]; omega
              | true =>
                go_wp2_with fail
                refine (HHAS.out _ HY6.out).mono ?_
                rintro e w7 ⟨rfl, z, rfl⟩
                have hk7 : Kp [hb] wr ((wr.drewN z).setCell ⟨hb, t, none⟩ (.bool true)) := ((Kp.refl _ _).drewN z).set (by simp) _
                have hx7 := HX6.out.keep hk7 (by simp; omega) (by simp; omega)
                have hy7 := HY6.out.keep hk7 (by simp; omega) (by simp; omega)
                have hr7 := ((HR6.out.keep ((Kp.refl [] _).drewN z) (by simp)).set t true)
                have hkw7 : Kp [] W ((wr.drewN z).setCell ⟨hb, t, none⟩ (.bool true)) := HKR6.out.trans (T := [hb]) hk7 (by simp; omega)
                have hj := HJN.out
                rw [Bool.true_or] at hj
                rw [hj] at hr7
                have hl := HLN.out
                rw [Bool.true_and] at hl
                have HX7 := hide hx7
                have HY7 := hide hy7
                have HR7 := hide hr7
                have HK7 := hide hkw7
                clear hx7 hy7 hr7 hkw7
                clear hk7 hj
                cases p2 with
                | false =>
                  rw [Bool.false_and, if_neg (by simp)] at hl
                  have HL7 := hide hl
                  clear hl
                  go_wp2_with fail
                  go_roundw
                  case rel => exact ⟨t + 1, u, by omega, by go_num, rfl, HL7.out, HX7.out, HY7.out, HR7.out, HK7.out⟩
                  case measure => simp [intOf]; omega
                | true =>
                  rw [Bool.true_and] at hl
                  cases d1 : decide (u < 0) with
                  | true =>
                    rw [if_pos d1] at hl
                    have HL7 := hide hl
                    clear hl
                    go_wp2_with fail
                    go_roundw
                    case rel => exact ⟨t + 1, t, by omega, by go_num, rfl, HL7.out, HX7.out, HY7.out, HR7.out, HK7.out⟩
                    case measure => simp [intOf]; omega
                  | false =>
                    rw [if_neg (by rw [d1]; simp)] at hl
                    have HL7 := hide hl
                    clear hl
                    go_wp2_with fail
                    go_roundw
                    case rel => exact ⟨t + 1, u, by omega, by go_num, rfl, HL7.out, HX7.out, HY7.out, HR7.out, HK7.out⟩
                    case measure => simp [intOf]; omega
            · obtain rfl : t = k := by omega
              have hT6 := HT.out.keep hkr (by simp)
              have hr2 : RowN wr hb t (fun i => fx i || cap2 t fy i) := hr.congr fun i hi => by
                simp only [joinTo, cap2]; rw [show decide (i < t) = true by simpa using hi]; simp
              have hfz : ∀ i, t ≤ i → (fx i || cap2 t fy i) = false := fun i hi => by
                simp only [cap2]; rw [HFO.out i hi, show decide (i < t) = false by simp; omega]; simp
              have hcap : (fun i => fx i || cap2 t fy i) = (fun i => fx i || cap2 t fy i) := rfl
              obtain ⟨fz, hfze⟩ : ∃ fz, (fun i => fx i || cap2 t fy i) = fz := ⟨_, rfl⟩
              rw [hfze] at hr2
              have hmg := bmMerge_any (ob := b2) (ow := wb2) (oc := cp2) (no := m) (oo := fy) hx (.inr ⟨fun h => by omega, fun h => by omega, fun h => by omega, fun h => by omega, hy⟩) hT6 (by omega) (by omega)
              have hfz2 : ∀ i, t ≤ i → fz i = false := fun i hi => by rw [← hfze]; exact hfz i hi
              have HMG := hide hmg
              have HLE := hide hle
              have HY7 := hide hy
              have HR7 := hide hr2
              have HK7 := hide hkr
              have HFZ := hide hfz2
              have HFZE := hide hfze
              clear hmg hle hy hr2 hkr hfz2 hfze
              clear hx hr hfz hcap
              go_wp2_with fail
              refine HMG.out.mono ?_
              rintro e w8 ⟨v, rfl, hlv, hx8, hk8⟩
              obtain rfl : v = u := hlv.uniq HLE.out
              rw [HFZE.out] at hx8
              have hy8 := HY7.out.keep hk8 (by simp; omega) (by simp; omega)
              have hr8 := HR7.out.keep hk8 (by simp; omega)
              have hkw8 : Kp [] W w8 := HK7.out.trans (T := [b1, wb1]) hk8 (by simp; omega)
              have HX8 := hide hx8
              have HY8 := hide hy8
              have HR8 := hide hr8
              have HK8 := hide hkw8
              clear hx8 hy8 hr8 hkw8
              clear hk8 hlv
              go_wp2_with fail
              refine (bmCount_any HY8.out).mono ?_
              rintro e w9 ⟨rfl, rfl⟩
              rw [HHAD.out]
              go_wp2_with fail
              have hrl := HR8.out.lt
              have hbk : BookAt (w8.alloc (.cells #[.int .i64 0, .int .i64 0, .int .i64 0, .int .i64 0, .slice (some ⟨hb, 0, none⟩) t t, .int .i64 0] 51)) w8.heap.size hb { pages := 0, inodes := 0, cores := 0, data := 0 } t fz 0 := by
                refine ⟨blk_new _ _, ?_, by omega⟩
                obtain ⟨c, h1, h2⟩ := HR8.out
                exact ⟨c, blk_alloc h1 _, h2⟩
              have hka : Kp [] w8 (w8.alloc (.cells #[.int .i64 0, .int .i64 0, .int .i64 0, .int .i64 0, .slice (some ⟨hb, 0, none⟩) t t, .int .i64 0] 51)) := (Kp.refl _ _).alloc _
              generalize w8.alloc (.cells #[.int .i64 0, .int .i64 0, .int .i64 0, .int .i64 0, .slice (some ⟨hb, 0, none⟩) t t, .int .i64 0] 51) = wa at hbk hka ⊢
              have hxa := HX8.out.keep hka (by simp) (by simp)
              have hra := HR8.out.keep hka (by simp)
              have hkwa := HK8.out.trans' hka
              generalize w8.heap.size = bb at hbk ⊢
              have HBA := hide hbk
              have HXA := hide hxa
              have HRA := hide hra
              have HKA := hide hkwa
              clear hbk hxa hra hkwa
              clear hka
              go_loopw [12, 21] (fun c i wr => ∃ j : Nat, j ≤ t ∧ i = .int .i64 j ∧ c = .int .i64 (cnt fz j) ∧ BmAt wr b1 wb1 cp1 t fz ∧ BookAt wr bb hb { pages := 0, inodes := 0, cores := 0, data := 0 } t fz 0 ∧ RowN wr hb t fz ∧ Kp [] W wr) (fun _ i _ => t - (intOf i).toNat)
              case atStart => exact ⟨0, by omega, rfl, rfl, HXA.out, HBA.out, HRA.out, HKA.out⟩
              case round =>
                obtain ⟨j, hj, rfl, rfl, hx, hbo, hr, hkr⟩ := hrel
                have hcl := cnt_le fz j
                by_cases hlt : j < t
                · have hrj := hr.cell hlt
                  obtain ⟨p1, hp1⟩ : ∃ p1, fz j = p1 := ⟨_, rfl⟩
                  have hhas : ∀ z, Calls Tryd.prog 11 #[.pointer (some ⟨b1, 0, none⟩), .int .i64 j] (wr.drewN z) fun e w'' => e = .returned (.bool p1) ∧ ∃ k, w'' = (wr.drewN z).drewN k := fun z => by
                    have h9 := bmHas_any (hx.drewN z) j
                    rw [show (decide ((0 : Int) ≤ (j : Int)) && fz (j : Int).toNat) = p1 by simp [hp1]] at h9
                    exact h9
                  have hst : cnt fz (j + 1) = cnt fz j + if fz j = true then 1 else 0 := rfl
                  rw [hp1] at hrj hst
                  have hlt1 : (j : Int) < (t : Int) := by omega
                  have hlt2 : (0 : Int) ≤ (j : Int) := by omega
                  have HHAS := hide hhas
                  have HX9 := hide hx
                  have HB9 := hide hbo
                  have HR9 := hide hr
                  have HK9 := hide hkr
                  have HST := hide hst
                  clear hhas hx hbo hr hkr hst
                  clear hp1
                  go_wp2_with fail
                  go_quiet ((go_at_call 11; refine Calls.quiet_of (HHAS.out _)))
                  replace hrj := ((Kp.refl [] wr).drewN nq).cell hrj (by simp)
                  cases p1 with
                  | true =>
                    have hst := HST.out
                    rw [if_pos rfl] at hst
                    have HST2 := hide hst
                    clear hst
                    go_wp2_with fail
                    go_roundw
                    case rel => exact ⟨j + 1, by omega, by go_num, by rw [HST2.out]; go_num, HX9.out.drewN _, HB9.out.drewN _, HR9.out.keep ((Kp.refl [] _).drewN _) (by simp), HK9.out.drewN _⟩
                    case measure => simp [intOf]; omega
                  | false =>
                    have hst := HST.out
                    rw [if_neg (by simp)] at hst
                    have HST2 := hide hst
                    clear hst
                    go_wp2_with fail
                    go_roundw
                    case rel => exact ⟨j + 1, by omega, by go_num, by rw [HST2.out]; rfl, HX9.out.drewN _, HB9.out.drewN _, HR9.out.keep ((Kp.refl [] _).drewN _) (by simp), HK9.out.drewN _⟩
                    case measure => simp [intOf]; omega
                · obtain rfl : j = t := by omega
                  have m1 : mn (mx (-1) 0) (j : Int) = ((0 : Nat) : Int) := by have := mx_le (-1) 0; have := mn_le (mx (-1) 0) (j : Int); omega
                  have m2 : mx (mn ((j : Int) + 1) (j : Int)) 0 = (j : Int) := by have := mn_le ((j : Int) + 1) (j : Int); have := mx_le (mn ((j : Int) + 1) (j : Int)) 0; omega
                  have hho := bmHoles_any hx (-1) ((j : Int) + 1) 0 j m1 m2
                  have hh1 : ∀ w', BmAt w' b1 wb1 cp1 j fz → Calls Tryd.prog 11 #[.pointer (some ⟨b1, 0, none⟩), .int .i64 j] w' fun e w'' => e = .returned (.bool false) ∧ ∃ z, w'' = w'.drewN z := fun w' h' => by
                    have h9 := bmHas_any h' j
                    rw [show (decide ((0 : Int) ≤ (j : Int)) && fz (j : Int).toNat) = false by simp [HFZ.out j (Nat.le_refl _)]] at h9
                    exact h9
                  have hh2 : ∀ w', BmAt w' b1 wb1 cp1 j fz → Calls Tryd.prog 11 #[.pointer (some ⟨b1, 0, none⟩), .int .i64 (-1)] w' fun e w'' => e = .returned (.bool false) ∧ ∃ z, w'' = w'.drewN z := fun w' h' => by
                    have h9 := bmHas_any h' (-1)
                    rw [show (decide ((0 : Int) ≤ (-1 : Int)) && fz (-1 : Int).toNat) = false by simp] at h9
                    exact h9
                  have HHO := hide hho
                  have HH1 := hide hh1
                  have HH2 := hide hh2
                  have HX9 := hide hx
                  have HB9 := hide hbo
                  have HK9 := hide hkr
                  clear hho hh1 hh2 hx hbo hkr
                  clear m1 m2 hr
                  go_wp2_with fail
                  refine (bmCount_any HX9.out).mono ?_
                  rintro e w10 ⟨rfl, rfl⟩
                  go_wp2_with fail
                  refine HHO.out.mono ?_
                  rintro e w11 ⟨vh, rfl, hoh, hkh⟩
                  have hb11 := HB9.out.keep hkh (by simp) (by simp)
                  have hx11 := HX9.out.keep hkh (by simp) (by simp)
                  have hkw11 := HK9.out.trans' hkh
                  have hli := listed_ok hb11 vh _ 0 (j : Int) 0 j rfl rfl hoh.rd rfl (by omega) (by omega) (by omega)
                  have HLI := hide hli
                  have HX11 := hide hx11
                  have HK11 := hide hkw11
                  clear hli hx11 hkw11
                  clear hkh hb11 hoh
                  go_wp2_with fail
                  refine HLI.out.mono ?_
                  rintro e w12 ⟨rfl, z1, rfl⟩
                  go_wp2_with fail
                  refine (HH1.out _ (HX11.out.drewN z1)).mono ?_
                  rintro e w13 ⟨rfl, z2, rfl⟩
                  go_wp2_with fail
                  refine (HH2.out _ (HX11.out.drewN (z1 + z2))).mono ?_
                  rintro e w14 ⟨rfl, z3, rfl⟩
                  go_wp2_with fail
                  rw [HQ.out]
                  exact ⟨by first | rfl | simp, by first | exact HK11.out.drewN _ | exact (HK11.out.drewN _).drewN _⟩
end Go.Proofs.YtoghdhjeopcjkaaDoor
