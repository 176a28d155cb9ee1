/- The walk of the laws' spoilt. Conditions: the lists are read as told. -/
import Derived.Test.YtoghdhjeopcjkaaSpoil
namespace Go.Proofs.Ytoghdhjeopcjkaa
open Go.RowKit

theorem blk3 {w : World} {b : Nat} {x0 x1 x2 : Value} {T : TypeId} {fr : Nat × Nat} (h : w.heap[b]? = some (.cells #[x0, x1, x2] T fr)) :
    w.cell? ⟨b, 0, none⟩ = some x0 ∧ w.cell? ⟨b, 1, none⟩ = some x1 ∧ w.cell? ⟨b, 2, none⟩ = some x2 := by
  simp [World.cell?, h]
theorem fr_of {l : Sps} {i : Nat} {f c : Int} (h : l[i]? = some (f, c)) : fr l i = f ∧ ct l i = c := by simp [fr, ct, h]
set_option maxHeartbeats 2000000 in
set_option maxRecDepth 100000 in
theorem spoilt_ok {w : World} {v v2 : Value} {mark : Int} {n : Nat} (h1 : RdS w v (spo mark n)) (h2 : RdS w v2 (spo mark n ++ [(mark, mark)])) (hn : n ≤ 4096) :
    Calls Try.prog 37 #[.agg #[v, v2, .int .i64 mark], .int .i64 n] w fun e w' => e = .returned (.bool true) ∧ Kp [] w w' := by
  obtain ⟨a1, c1, rfl, h1⟩ := h1
  obtain ⟨a2, c2, rfl, h2⟩ := h2
  have e1 := spo_length mark n
  have e2 : (spo mark n ++ [(mark, mark)]).length = n + 1 := by simp [spo_length]
  rw [e1] at h1 ⊢
  rw [e2] at h2 ⊢
  have f1 : ∀ i, i < n → fr (spo mark n) i = mark ∧ ct (spo mark n) i = -(i : Int) := fun i hi => fr_of (spo_get mark n i hi)
  have f2 : ∀ i, i < n → fr (spo mark n ++ [(mark, mark)]) i = mark ∧ ct (spo mark n ++ [(mark, mark)]) i = -(i : Int) := fun i hi => fr_of (by rw [List.getElem?_append_left (by rw [e1]; exact hi)]; exact spo_get mark n i hi)
  have f3 : fr (spo mark n ++ [(mark, mark)]) n = mark ∧ ct (spo mark n ++ [(mark, mark)]) n = mark := fr_of (by rw [List.getElem?_append_right (by rw [e1]; omega), e1, Nat.sub_self]; rfl)
  have sn := span_neq
  have seq := span_eql
  have H1 := hide h1
  have H2 := hide h2
  have F1 := hide f1
  have F2 := hide f2
  have F3 := hide f3
  have E1 := hide e1
  have E2 := hide e2
  clear h1 h2 f1 f2 f3 e1 e2
  go_enter Try.func37, Try.ntmps37
  go_wp2
  generalize hwa : w.alloc _ = wa
  have hka : Kp [] w wa := by rw [← hwa]; exact (Kp.refl _ _).alloc _
  have hza := blk_new w (.cells #[.slice a1 n c1, .slice a2 (n + 1) c2, .int .i64 mark] 67)
  rw [hwa] at hza
  have HKA := hide hka
  have HZA := hide hza
  clear hka hza
  clear hwa
  go_loopw [5] (fun i wr => ∃ k : Nat, k ≤ n ∧ i = .int .i64 k ∧ Kp [] wa wr) (fun i _ => n - (intOf i).toNat)
  case atStart => exact ⟨0, by omega, rfl, Kp.refl _ _⟩
  case round =>
    obtain ⟨k, hk, rfl, hkr⟩ := hrel
    obtain ⟨z0, z1, z2⟩ := blk3 (hkr.blk HZA.out (by simp))
    have hkw := HKA.out.trans' hkr
    have hg2 : ∃ g2, a2 = some ⟨g2, 0, none⟩ ∧ ∀ i, i < n + 1 → wr.cell? ⟨g2, i * 2, none⟩ = some (.int .i64 (fr (spo mark n ++ [(mark, mark)]) i)) ∧ wr.cell? ⟨g2, i * 2 + 1, none⟩ = some (.int .i64 (ct (spo mark n ++ [(mark, mark)]) i)) := by
      rcases H2.out with e | ⟨g, rfl, g'⟩
      · have := E2.out; rw [e] at this; simp at this
      · exact ⟨g, rfl, fun i hi => ⟨hkw.cell (g' i hi).1 (by simp), hkw.cell (g' i hi).2 (by simp)⟩⟩
    obtain ⟨g2, rfl, hg2⟩ := hg2
    by_cases hlt : k < n
    · have hg1 : ∃ g1, a1 = some ⟨g1, 0, none⟩ ∧ wr.cell? ⟨g1, k * 2, none⟩ = some (.int .i64 mark) ∧ wr.cell? ⟨g1, k * 2 + 1, none⟩ = some (.int .i64 (-(k : Int))) := by
        rcases H1.out with e | ⟨g, rfl, g'⟩
        · have := E1.out; rw [e] at this; simp at this; omega
        · have h5 := g' k hlt
          rw [(F1.out k hlt).1, (F1.out k hlt).2] at h5
          exact ⟨g, rfl, hkw.cell h5.1 (by simp), hkw.cell h5.2 (by simp)⟩
      obtain ⟨g1, rfl, p0, p1⟩ := hg1
      obtain ⟨p2, p3⟩ := hg2 k (by omega)
      rw [(F2.out k hlt).1] at p2
      rw [(F2.out k hlt).2] at p3
      have i1 : (0 : Int) ≤ (k : Int) := by omega
      have i2 : (k : Int) < (n : Int) := by omega
      have i3 : (k : Int) < ((n + 1 : Nat) : Int) := by omega
      have HKR := hide hkr
      have HKW := hide hkw
      clear hkr hkw
      clear hg2
      go_wp2
      have hkx : Kp [] wr (wr.alloc (.cells #[.int .i64 mark, .int .i64 (-(k : Int))] 31)) := (Kp.refl _ _).alloc _
      have hzx := blk2 (blk_new wr (.cells #[.int .i64 mark, .int .i64 (-(k : Int))] 31))
      generalize wr.alloc (.cells #[.int .i64 mark, .int .i64 (-(k : Int))] 31) = wx at hkx hzx ⊢
      obtain ⟨x0, x1⟩ := hzx
      have q0 := hkx.cell p0 (by simp)
      have q1 := hkx.cell p1 (by simp)
      have q2 := hkx.cell p2 (by simp)
      have q3 := hkx.cell p3 (by simp)
      have q4 := hkx.cell z0 (by simp)
      have q5 := hkx.cell z1 (by simp)
      have q6 := hkx.cell z2 (by simp)
      have HKX := hide hkx
      clear hkx
      clear p0 p1 p2 p3 z0 z1 z2
      go_quiet (fail)
      go_wp2
      go_roundw
      case rel => exact ⟨k + 1, by omega, by go_num, (HKR.out.trans' HKX.out).drewN _⟩
      case measure => simp [intOf]; omega
    · have hkn : k = n := by omega
      subst hkn
      obtain ⟨p2, p3⟩ := hg2 k (by omega)
      rw [F3.out.1] at p2
      rw [F3.out.2] at p3
      have i1 : (0 : Int) ≤ (k : Int) := by omega
      have i3 : (k : Int) < ((k + 1 : Nat) : Int) := by omega
      have HKR := hide hkr
      have HKW := hide hkw
      clear hkr hkw
      clear hg2
      go_wp2
      go_quiet (fail)
      go_wp2
      go_ret
      exact ⟨by simp, HKW.out.drewN _⟩
end Go.Proofs.Ytoghdhjeopcjkaa
