
/- The walk of the reference's Holes. Conditions: the bitmap lies in memory (RbAt). -/
import Derived.Test.YtoghdhjeopcjkaaDoorRb2
namespace Go.Proofs.YtoghdhjeopcjkaaDoor
open Go.RowKit Go.Deep

/-- The numbers from lo to hi that have no mark. -/
def hol (on : Nat → Bool) (lo hi : Int) : Nat → Bool := fun i => !on i && decide (lo ≤ (i : Int)) && decide ((i : Int) < hi)
theorem runsTo_same {p q : Nat → Bool} {lo k : Nat} (h : ∀ i, lo ≤ i → i < lo + k → p i = q i) : runsTo p lo k = runsTo q lo k := by
  induction k with
  | zero => rfl
  | succ k ih => simp only [runsTo]; rw [ih fun i h1 h2 => h i h1 (by omega), h (lo + k) (by omega) (by omega)]
theorem hol_runs (on : Nat → Bool) (lo hi : Int) (n l h' : Nat) (hl : mn (mx lo 0) n = (l : Int)) (hh : mx (mn hi n) 0 = (h' : Int)) : runsTo (hol on lo hi) 0 n = runsTo (fun i => !on i) l (h' - l) := by
  have a1 := mn_le (mx lo 0) n
  have a2 := mx_le lo 0
  have a3 := mx_le (mn hi n) 0
  have a4 := mn_le hi n
  rw [← runs_cut (fun i => !on i) l (h' - l) n (by omega)]
  refine runsTo_same fun i _ hi2 => ?_
  simp only [hol, cutTo]
  rw [Bool.and_assoc, Bool.and_assoc]
  congr 1
  rw [Bool.eq_iff_iff, Bool.and_eq_true, Bool.and_eq_true, decide_eq_true_eq, decide_eq_true_eq, decide_eq_true_eq, decide_eq_true_eq]
  omega
section
variable {w : World} {base rb cap n : Nat} {a : Option Addr} {on : Nat → Bool}
set_option maxHeartbeats 2000000 in
set_option maxRecDepth 100000 in
theorem rbHoles_any (h : RbAt w base rb a cap n on) (lo hi : Int) :
    Calls Tryd.prog 27 #[.pointer (some ⟨rb, 0, none⟩), .int .i64 lo, .int .i64 hi] w fun e w' => ∃ v, e = .returned v ∧ Own w' w.heap.size v (runsTo (hol on lo hi) 0 n) ∧ Kp [] w w' := by
  have o1 := h.nle
  have H := hide h
  clear h
  go_enter Tryd.func27, Tryd.ntmps27
  go_wp2_with fail
  go_loopw [7, 8] (fun l i wr => ∃ k : Nat, k ≤ n ∧ i = .int .i64 k ∧ OwnB wr w.heap.size l k (hol on lo hi) ∧ Kp [] w wr) (fun _ i _ => n - (intOf i).toNat)
  case atStart => exact ⟨0, by omega, rfl, OwnB.nil _ _ _, Kp.refl _ _⟩
  case round =>
    obtain ⟨k, hk, rfl, hown, hkr⟩ := hrel
    obtain ⟨v, rfl⟩ : ∃ v, v = u7 := ⟨_, rfl⟩
    have hre := H.out.keep hkr (by simp) (by simp)
    have c0 := hre.c
    have hsr := hkr.size
    by_cases hlt : k < n
    · obtain ⟨g, rfl, hm, _⟩ := hre.at_ hlt
      have m0 := hm k hlt
      have i1 : (0 : Int) ≤ (k : Int) := by omega
      have i2 : (k : Int) < (n : Int) := by omega
      have hlts : ∀ x, v.ownBlock = some x → w.heap.size ≤ x := fun x hx => (hown.lt x hx).1
      have hgd : hol on lo hi k = (!on k && decide (lo ≤ (k : Int)) && decide ((k : Int) < hi)) := rfl
      clear hm
      cases ho : on k with
      | true =>
        rw [ho] at m0 hgd
        simp only [Bool.not_true, Bool.false_and] at hgd
        have HO := hide hown
        have HKR := hide hkr
        have HLT := hide hlts
        have HG := hide hgd
        have HON := hide ho
        clear hown hkr hlts hgd ho
        clear hre
        go_wp2_with (at_builtin; refine app_bool rfl _ _ rfl w.heap.size v k (hol on lo hi) rfl (HO.out.keep ((Kp.refl [] _).alloc _) (by simp)) _ false HG.out.symm _ rfl (blk_new' (by simp) _) (by omega) (by simp; omega) ?_; intro v' w6 hown6 hgr; have hk6 : Kp [] w w6 := (HKR.out.alloc _).grown hgr (fun x hx => .inr (HLT.out x hx)); have HO6 := hide hown6; have HK6 := hide hk6; clear hown6 hgr hk6)
        go_roundw
        case rel => exact ⟨k + 1, by omega, by go_num, HO6.out, HK6.out⟩
        case measure => simp [intOf]; omega
      | false =>
        rw [ho] at m0 hgd
        simp only [Bool.not_false, Bool.true_and] at hgd
        cases d1 : decide (lo ≤ (k : Int)) with
        | true =>
          rw [d1] at hgd
          simp only [Bool.true_and] at hgd
          cases d2 : decide ((k : Int) < hi) with
          | true =>
            rw [d2] at hgd
            have HO := hide hown
            have HKR := hide hkr
            have HLT := hide hlts
            have HG := hide hgd
            have HON := hide ho
            clear hown hkr hlts hgd ho
            clear hre
            go_wp2_with (at_builtin; refine app_bool rfl _ _ rfl w.heap.size v k (hol on lo hi) rfl (HO.out.keep ((Kp.refl [] _).alloc _) (by simp)) _ true HG.out.symm _ rfl (blk_new' (by simp) _) (by omega) (by simp; omega) ?_; intro v' w6 hown6 hgr; have hk6 : Kp [] w w6 := (HKR.out.alloc _).grown hgr (fun x hx => .inr (HLT.out x hx)); have HO6 := hide hown6; have HK6 := hide hk6; clear hown6 hgr hk6)
            go_roundw
            case rel => exact ⟨k + 1, by omega, by go_num, HO6.out, HK6.out⟩
            case measure => simp [intOf]; omega
          | false =>
            rw [d2] at hgd
            have HO := hide hown
            have HKR := hide hkr
            have HLT := hide hlts
            have HG := hide hgd
            have HON := hide ho
            clear hown hkr hlts hgd ho
            clear hre
            go_wp2_with (at_builtin; refine app_bool rfl _ _ rfl w.heap.size v k (hol on lo hi) rfl (HO.out.keep ((Kp.refl [] _).alloc _) (by simp)) _ false HG.out.symm _ rfl (blk_new' (by simp) _) (by omega) (by simp; omega) ?_; intro v' w6 hown6 hgr; have hk6 : Kp [] w w6 := (HKR.out.alloc _).grown hgr (fun x hx => .inr (HLT.out x hx)); have HO6 := hide hown6; have HK6 := hide hk6; clear hown6 hgr hk6)
            go_roundw
            case rel => exact ⟨k + 1, by omega, by go_num, HO6.out, HK6.out⟩
            case measure => simp [intOf]; omega
        | false =>
          rw [d1] at hgd
          simp only [Bool.false_and] at hgd
          have HO := hide hown
          have HKR := hide hkr
          have HLT := hide hlts
          have HG := hide hgd
          have HON := hide ho
          clear hown hkr hlts hgd ho
          clear hre
          go_wp2_with (at_builtin; refine app_bool rfl _ _ rfl w.heap.size v k (hol on lo hi) rfl (HO.out.keep ((Kp.refl [] _).alloc _) (by simp)) _ false HG.out.symm _ rfl (blk_new' (by simp) _) (by omega) (by simp; omega) ?_; intro v' w6 hown6 hgr; have hk6 : Kp [] w w6 := (HKR.out.alloc _).grown hgr (fun x hx => .inr (HLT.out x hx)); have HO6 := hide hown6; have HK6 := hide hk6; clear hown6 hgr hk6)
          go_roundw
          case rel => exact ⟨k + 1, by omega, by go_num, HO6.out, HK6.out⟩
          case measure => simp [intOf]; omega
    · have hkn : k = n := by omega
      subst hkn
      have hsp := rspans_any hown.rd (by omega)
      have HSP := hide hsp
      have HKW := hide hkr
      clear hsp hkr
      clear hre hown
      go_wp2_with (go_at_call 38; refine HSP.out.mono ?_; rintro e w' ⟨v', rfl, ho, hk⟩; have HO := hide ho; have HK := hide hk; clear ho hk)
      go_ret
      exact ⟨v', rfl, HO.out.low (by have := HKW.out.size; omega), HKW.out.trans' HK.out⟩
end
end Go.Proofs.YtoghdhjeopcjkaaDoor
