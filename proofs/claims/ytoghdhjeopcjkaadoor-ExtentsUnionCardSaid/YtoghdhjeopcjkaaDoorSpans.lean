
/- The walk of marks.spans. Conditions: the bitmap lies in memory (MarksAt). -/
import Derived.Test.YtoghdhjeopcjkaaDoorSpan
namespace Go.Proofs.YtoghdhjeopcjkaaDoor
open Go.RowKit

section
variable {w : World} {b wb cap T : Nat} {tail : List Value} {n : Nat} {on : Nat → Bool}

set_option maxHeartbeats 1000000 in
set_option maxRecDepth 100000 in
theorem mspans_any (h : MarksAt w b wb cap T tail n on) (lo hi : Int) (set : Bool) (l h' : Nat) (hl : mn (mx lo 0) n = (l : Int)) (hh : mx (mn hi n) 0 = (h' : Int)) :
    Calls Tryd.prog 33 #[.pointer (some ⟨b, 0, none⟩), .int .i64 lo, .int .i64 hi, .bool set] w fun e w' =>
      ∃ v, e = .returned v ∧ Own w' w.heap.size v (runsTo (fun i => on i == set) l (h' - l)) ∧ Kp [] w w' := by
  have c0 := h.c0
  have hn := h.nle
  have H := hide h
  have kmx := run_mx
  have kmn := run_mn
  have b1 := mn_le (mx lo 0) n
  have b2 := mx_le (mn hi n) 0
  have b3 := mn_le hi n
  have hh2 : h' ≤ n := by omega
  have hl2 : l ≤ n := by omega
  obtain ⟨c, hc⟩ : ∃ c : Nat, h' - l = c := ⟨_, rfl⟩
  have b4 := mx_le 0 ((h' : Int) - (l : Int))
  have hm : mx 0 ((h' : Int) - (l : Int)) = (c : Int) := by omega
  have hcl : l + c ≤ 1024 ∨ c = 0 := by omega
  obtain ⟨p, hp⟩ : ∃ p : Nat → Bool, p = fun i => on i == set := ⟨_, rfl⟩
  rw [hc, ← hp]
  have HP := hide hp
  have hlc : l + c ≤ 2048 := by omega
  clear h b1 b2 b3 b4 hc hp hcl
  go_enter Tryd.func33, Tryd.ntmps33
  go_wp2
  go_quiet (fail)
  go_wp2
  go_loopw [9, 31] (fun v i wr => ∃ k : Nat, k ≤ c ∧ i = .int .i64 k ∧ Own wr w.heap.size v (runsTo p l k) ∧ Kp [] w wr) (fun _ i _ => c - (intOf i).toNat)
  case atStart => exact ⟨0, by omega, rfl, Own.nil _ _, (Kp.refl _ _).drewN _⟩
  case round =>
    obtain ⟨k, hk, rfl, hown, hkp⟩ := hrel
    by_cases hlt : k < c
    · have hM := hide (H.out.keep hkp (by simp) (by simp))
      obtain ⟨q, hq⟩ : ∃ q, on (l + k) = q := ⟨_, rfl⟩
      have hlow := hkp.size
      cases ht : (q == set) with
      | false =>
        have hstep : runsTo p l (k + 1) = runsTo p l k := by rw [HP.out]; simp [runsTo, hq, ht]
        have HS := hide hstep
        have HQ := hide hq
        clear hstep hq
        go_wp2_with (go_at_call 30; refine (mhas_nat hM.out _ (l + k) (by omega) q HQ.out).mono ?_; rintro e w' ⟨rfl, kk, rfl⟩)
        go_roundw
        case rel => exact ⟨k + 1, by omega, by go_num, by rw [HS.out]; exact hown, hkp.drewN _⟩
        case measure => simp [intOf]; omega
      | true =>
        have hup := runsTo_upto p l k
        have hstep : runsTo p l (k + 1) = push (runsTo p l k) ((l + k : Nat) : Int) := by rw [HP.out]; simp [runsTo, hq, ht]
        have hlen := runsTo_length p l k
        generalize runsTo p l k = r at hown hup hstep hlen
        have HS := hide hstep
        have HQ := hide hq
        clear hstep hq
        rcases List.eq_nil_or_concat r with rfl | ⟨r, ⟨f, cc⟩, rfl⟩
        · rcases hown.cases with ⟨rfl, _⟩ | ⟨g, cp, hv, hg1, hg2, hg3, hg4⟩
          · have HO := hide hown
            have HB := hide hown.lt
            clear hown
            go_wp2_with (go_at_call 30; refine (mhas_nat hM.out _ (l + k) (by omega) q HQ.out).mono ?_; rintro e w' ⟨rfl, kk, rfl⟩)
            go_quiet (fail)
            go_wp2_with (at_builtin; refine app_span rfl _ _ rfl w.heap.size (.slice none 0 0) [] rfl (HO.out.keep (((Kp.refl [] _).drewN _).alloc _) (by simp)) _ ((l : Int) + k) 1 _ rfl (blk_new _ _) (by simp) (by simp; omega) ?_; intro v' w1 hown1 hgr)
            go_roundw
            case rel => exact ⟨k + 1, by omega, by go_num, by rw [HS.out, push_nil]; exact hown1, ((hkp.drewN _).alloc _).grown hgr (fun b hb => .inr (HB.out b hb).1)⟩
            case measure => simp [intOf]; omega
          · simp only [List.length_nil] at hv
            subst hv
            have HO := hide hown
            have HB := hide hown.lt
            clear hown
            go_wp2_with (go_at_call 30; refine (mhas_nat hM.out _ (l + k) (by omega) q HQ.out).mono ?_; rintro e w' ⟨rfl, kk, rfl⟩)
            go_quiet (fail)
            go_wp2_with (at_builtin; refine app_span rfl _ _ rfl w.heap.size (.slice (some ⟨g, 0, none⟩) 0 cp) [] rfl (HO.out.keep (((Kp.refl [] _).drewN _).alloc _) (by simp)) _ ((l : Int) + k) 1 _ rfl (blk_new _ _) (by simp) (by simp; omega) ?_; intro v' w1 hown1 hgr)
            go_roundw
            case rel => exact ⟨k + 1, by omega, by go_num, by rw [HS.out, push_nil]; exact hown1, ((hkp.drewN _).alloc _).grown hgr (fun b hb => .inr (HB.out b hb).1)⟩
            case measure => simp [intOf]; omega
        · rw [List.concat_eq_append] at *
          have hu := hup (f, cc) (by simp)
          rcases hown.cases with ⟨_, hnil⟩ | ⟨g, cp, hv, hg1, hg2, hg3, hg4⟩
          · simp at hnil
          · have hlr : (r ++ [(f, cc)]).length = r.length + 1 := by simp
            rw [hlr] at hv hg3 hlen
            subst hv
            have hcell := hown.cell (by simp) r.length (by simp)
            rw [fr_last, ct_last] at hcell
            obtain ⟨d1, d2⟩ := hcell
            have hfz := hown.free (r.length * 2 + 1)
            have HO := hide hown
            have HB := hide hown.lt
            obtain ⟨hu1, hu2, hu3⟩ := hu
            simp only at hu1 hu2 hu3
            clear hown hup hlr
            by_cases he : f + cc = (l : Int) + k
            · have heq : (f + cc == (l : Int) + (k : Int)) = true := by simpa using he
              have HE := hide he
              clear he
              go_wp2_with (go_at_call 30; refine (mhas_nat hM.out _ (l + k) (by omega) q HQ.out).mono ?_; rintro e w' ⟨rfl, kk, rfl⟩)
              go_quiet (fail)
              go_wp2
              go_roundw
              case rel => exact ⟨k + 1, by omega, by go_num, by rw [HS.out, push_join _ _ _ _ (by have := HE.out; omega)]; exact (HO.out.keep ((Kp.refl [] _).drewN _) (by simp)).raise rfl rfl, (hkp.drewN _).set (.inr hg1) _⟩
              case measure => simp [intOf]; omega
            · have heq : (f + cc == (l : Int) + (k : Int)) = false := by simpa using he
              have HE := hide he
              clear he
              go_wp2_with (go_at_call 30; refine (mhas_nat hM.out _ (l + k) (by omega) q HQ.out).mono ?_; rintro e w' ⟨rfl, kk, rfl⟩)
              go_quiet (fail)
              go_wp2_with (at_builtin; refine app_span rfl _ _ rfl w.heap.size (.slice (some ⟨g, 0, none⟩) (r.length + 1) cp) (r ++ [(f, cc)]) rfl (HO.out.keep (((Kp.refl [] _).drewN _).alloc _) (by simp)) _ ((l : Int) + k) 1 _ rfl (blk_new _ _) (by simp; omega) (by simp; omega) ?_; intro v' w1 hown1 hgr)
              go_roundw
              case rel => exact ⟨k + 1, by omega, by go_num, by rw [HS.out, push_far _ _ _ _ (by have := HE.out; omega)]; exact hown1, ((hkp.drewN _).alloc _).grown hgr (fun b hb => .inr (HB.out b hb).1)⟩
              case measure => simp [intOf]; omega
    · have hkc : k = c := by omega
      subst hkc
      go_wp2
      go_ret
      exact ⟨_, rfl, hown, hkp⟩
end
end Go.Proofs.YtoghdhjeopcjkaaDoor
