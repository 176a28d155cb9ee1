
/- The walk of the laws' holesFresh. Conditions: the marks are read as told. -/
import Derived.Test.YtoghdhjeopcjkaaDoorSpoilt
import Derived.Test.YtoghdhjeopcjkaaDoorFirst
namespace Go.Proofs.YtoghdhjeopcjkaaDoor
open Go.RowKit

section
variable {w : World} {b wb cap n : Nat} {on : Nat → Bool}
theorem bmHoles_any (h : BmAt w b wb cap n on) (lo hi : Int) (l h' : Nat) (hl : mn (mx lo 0) n = (l : Int)) (hh : mx (mn hi n) 0 = (h' : Int)) :
    Calls Tryd.prog 14 #[.pointer (some ⟨b, 0, none⟩), .int .i64 lo, .int .i64 hi] w fun e w' =>
      ∃ v, e = .returned v ∧ Own w' w.heap.size v (runsTo (fun i => !on i) l (h' - l)) ∧ Kp [] w w' := by
  have e0 : (fun i => on i == false) = fun i => !on i := by funext i; simp
  have hm := mspans_any h lo hi false l h' hl hh
  rw [e0] at hm
  have HM := hide hm
  clear hm
  clear h
  go_enter Tryd.func14, Tryd.ntmps14
  go_wp2_with fail
  refine HM.out.mono ?_
  rintro e w1 ⟨v, rfl, ho, hk⟩
  have HO := hide ho
  have HK := hide hk
  clear ho hk
  go_wp2_with fail
  go_ret
  exact ⟨v, rfl, HO.out, HK.out⟩
end

/-- The first k of the marks. -/
def upTo (held : Nat → Bool) (k : Nat) : Nat → Bool := fun i => decide (i < k) && held i
theorem upTo_zero (held : Nat → Bool) : upTo held 0 = fun _ => false := by funext i; simp [upTo]
theorem upTo_on {held : Nat → Bool} {k : Nat} (h : held k = true) : upTo held (k + 1) = put (upTo held k) k true := by
  funext i
  simp only [upTo, put]
  by_cases e : i = k
  · subst e; simp [h]
  · rw [if_neg e]; congr 1; rw [decide_eq_decide]; omega
theorem upTo_off {held : Nat → Bool} {k : Nat} (h : held k = false) : upTo held (k + 1) = upTo held k := by
  funext i
  simp only [upTo]
  by_cases e : i = k
  · subst e; simp [h]
  · congr 1; rw [decide_eq_decide]; omega

end Go.Proofs.YtoghdhjeopcjkaaDoor
