
/- The walk of a bitmap's Merge, whole. Conditions: the bitmaps lie in memory (BmAt); the library's table lies in block 0. -/
import Derived.Test.YtoghdhjeopcjkaaDoorMerge1
namespace Go.Proofs.YtoghdhjeopcjkaaDoor
open Go.RowKit Go.Deep

section
variable {w : World} {b wb cap n : Nat} {on : Nat → Bool}
set_option maxHeartbeats 1000000 in
theorem bmMerge_zero {ob ow oc no : Nat} {oo : Nat → Bool} (hnw : n = 0) (h : BmAt w b wb cap n on) (ho : Oth w b wb cap n on ob ow oc no oo) :
    Calls Tryd.prog 12 #[.pointer (some ⟨b, 0, none⟩), .pointer (some ⟨ob, 0, none⟩)] w (Merged w b wb cap n on oo) := by
  obtain ⟨Q, hQ⟩ : ∃ Q, Q = Merged w b wb cap n on oo := ⟨_, rfl⟩
  rw [← hQ]
  subst hnw
  have hno := (ho.nle h).1
  have hmz : BmAt w b wb cap 0 (mg on oo 0 0) := by rw [mg_zero]; exact h
  have c2 := h.c2
  have o2 := (ho.at_ hmz (Kp.refl _ _)).1
  obtain ⟨mw, hmw⟩ : ∃ mw, (no + 63) / 64 = mw := ⟨_, rfl⟩
  rw [hmw] at o2
  rw [show (0 + 63) / 64 = 0 by decide] at c2
  have kmn := run_mn
  have hK : mn 0 (mw : Int) = 0 := by unfold mn; rw [if_neg (by omega)]
  have hz : (fun i => on i || cap2 0 oo i) = on := by funext i; simp [cap2]
  have hb : BmAt w b wb cap 0 (fun i => on i || cap2 0 oo i) := by rw [hz]; exact h
  have HQ := hide hQ
  have HMW := hide hmw
  have HB := hide hb
  clear hQ hmw hb
  clear hmz hz h ho
  go_enter Tryd.func12, Tryd.ntmps12
  go_wp2_with fail
  go_quiet (fail)
  go_wp2_with fail
  go_loop [5, 25] (fun v i => v = .int .i64 (-1) ∧ i = .int .i64 0) (fun _ _ => 0)
  case atStart => exact ⟨rfl, rfl⟩
  case round =>
    obtain ⟨rfl, rfl⟩ := hrel
    go_wp2_with fail
    rw [HQ.out]
    exact ⟨-1, rfl, .inl ⟨rfl, fun i hi => by omega⟩, HB.out.keep (S := []) ((Kp.refl _ _).drewN nq) (by simp) (by simp), (Kp.refl _ _).drewN nq⟩
theorem bmMerge_any {ob ow oc no : Nat} {oo : Nat → Bool} (h : BmAt w b wb cap n on) (ho : Oth w b wb cap n on ob ow oc no oo) (hT : TabOk w) (hb0 : b ≠ 0) (hw0 : wb ≠ 0) :
    Calls Tryd.prog 12 #[.pointer (some ⟨b, 0, none⟩), .pointer (some ⟨ob, 0, none⟩)] w (Merged w b wb cap n on oo) := by
  by_cases e : n = 0
  · exact bmMerge_zero e h ho
  · exact bmMerge_some (l := (n + 63) / 64 - 1) (by omega) h ho hT hb0 hw0
end
theorem bmSet_no {b wb cap n : Nat} {on : Nat → Bool} {w : World} (h : BmAt w b wb cap n on) (i : Int) (hi : i < 0 ∨ (n : Int) ≤ i ∨ on i.toNat = true) :
    Calls Tryd.prog 9 #[.pointer (some ⟨b, 0, none⟩), .int .i64 i] w fun e w' => e = .returned (.bool false) ∧ ∃ k, w' = w.drewN k := by
  have H := hide h
  clear h
  go_enter Tryd.func9, Tryd.ntmps9
  go_wp2_with (go_at_call 29; refine (mset_no H.out _ hi).mono ?_; rintro e w1 ⟨rfl, k, rfl⟩)
  go_ret
  exact ⟨rfl, k, rfl⟩
end Go.Proofs.YtoghdhjeopcjkaaDoor
