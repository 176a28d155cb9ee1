
/- The walk of the laws' first: a pool of one shape, a take from it, a bitmap. Conditions: none. -/
import Derived.Test.YtoghdhjeopcjkaaDoorTake
import Derived.Test.YtoghdhjeopcjkaaDoorGive
import Derived.Test.YtoghdhjeopcjkaaDoorAreas
namespace Go.Proofs.YtoghdhjeopcjkaaDoor
open Go.RowKit Go.Deep

section
variable {w : World} {b wb cap n : Nat} {on : Nat → Bool}
/-- A bitmap behind a pointer. -/
abbrev BmAt (w : World) (b wb cap n : Nat) (on : Nat → Bool) : Prop := MarksAt w b wb cap 72 [] n on
set_option maxRecDepth 100000 in
theorem newBitmap_any (x : Int) (m : Nat) (hm : mn (mx x 0) 1024 = m) (w : World) :
    Calls Tryd.prog 8 #[.int .i64 x] w fun e w' => ∃ b wb cap, e = .returned (.pointer (some ⟨b, 0, none⟩)) ∧ w.heap.size ≤ b ∧ w.heap.size ≤ wb ∧ BmAt w' b wb cap m (fun _ => false) ∧ Kp [] w w' := by
  have hm2 : m ≤ 1024 := by have := mn_le (mx x 0) 1024; omega
  go_enter Tryd.func8, Tryd.ntmps8
  go_wp2_with (go_at_call 28; refine (newMarks_any _ m hm _).mono ?_; rintro e w1 ⟨wb, rfl, hwb, hw2, hk1⟩)
  go_ret
  have := blk_lt hw2
  have hs := hk1.size
  exact ⟨_, wb, _, rfl, hs, hwb, marks_lit (blk_new _ _) (blk_alloc hw2 _) rfl hm2 (by omega), hk1.alloc _⟩
theorem bmSet_put (h : BmAt w b wb cap n on) (x : Int) (i : Nat) (hx : x = i) (hi : i < n) (v : Bool) (hv : on i = v) :
    Calls Tryd.prog 9 #[.pointer (some ⟨b, 0, none⟩), .int .i64 x] w fun e w' => e = .returned (.bool (!v)) ∧ BmAt w' b wb cap n (put on i true) ∧ Kp [b, wb] w w' := by
  subst hx
  have H := hide h
  have HV := hide hv
  clear h hv
  go_enter Tryd.func9, Tryd.ntmps9
  go_wp2_with (go_at_call 29; refine (mset_put H.out _ i rfl hi v HV.out).mono ?_; rintro e w1 ⟨rfl, hm1, hk1⟩)
  go_ret
  exact ⟨rfl, hm1, hk1⟩
theorem bmHas_any (h : BmAt w b wb cap n on) (i : Int) :
    Calls Tryd.prog 11 #[.pointer (some ⟨b, 0, none⟩), .int .i64 i] w fun e w' => e = .returned (.bool (decide (0 ≤ i) && on i.toNat)) ∧ ∃ k, w' = w.drewN k := by
  have H := hide h
  clear h
  go_enter Tryd.func11, Tryd.ntmps11
  go_wp2_with (go_at_call 30; refine (mhas_any H.out _).mono ?_; rintro e w' ⟨rfl, kk, rfl⟩)
  go_ret
  exact ⟨rfl, _, rfl⟩
end

def smallS : Sh := { pages := 24, inodes := 8, cores := 3, data := 5 }
theorem smallS_ok : smallS.Ok := by constructor <;> decide
def smallOn : Nat → Bool := onOf [(5, 19)] 1
theorem small_good : goodTo smallS [(5, 19)] [((5 : Int), (19 : Int))].length := by
  intro j hj
  simp at hj
  subst hj
  refine ⟨by decide, by decide, by decide, by decide⟩
theorem small_take : spansOf ((order smallS smallOn 1).take 8) = [(11, 8)] := by decide +kernel
theorem small_cnt : cnt smallOn smallS.pages = 19 := by decide +kernel
theorem small_cnt2 : cnt (minus smallOn ((order smallS smallOn 1).take 8)) smallS.pages = 11 := by decide +kernel
theorem small_12 : minus smallOn ((order smallS smallOn 1).take 8) 12 = false := by decide +kernel
theorem small_5 : minus smallOn ((order smallS smallOn 1).take 8) 5 = true := by decide +kernel

set_option maxHeartbeats 2000000 in
set_option maxRecDepth 100000 in
theorem first_any (w : World) : Calls Tryd.prog 5 #[] w fun e w' => e = .returned (.bool true) ∧ Kp [] w w' := by
  have sneq := span_neq
  go_enter Tryd.func5, Tryd.ntmps5
  go_wp2_with fail
  refine (small_any _).mono ?_
  rintro e w1 ⟨rfl, hk1⟩
  go_wp2_with fail
  refine (small_any _).mono ?_
  rintro e w2 ⟨rfl, hk2⟩
  go_wp2_with fail
  refine (whole_any 24 8 3 5 (by omega) (by omega) (by omega) _).mono ?_
  rintro e w3 ⟨v, rfl, hown3, hk3⟩
  simp only [show (24 : Int) - 5 = 19 from rfl] at hown3
  have hk03 := hk1.trans' (hk2.trans' hk3)
  clear hk1 hk2 hk3
  have HO3 := hide hown3
  have HK03 := hide hk03
  clear hown3 hk03
  go_wp2_with fail
  refine (newPool_any smallS smallS_ok v [(5, 19)] _ HO3.out.rd (by simp)).mono ?_
  rintro e w4 ⟨hk4, ⟨_, pb, wb, cap, rfl, hpb, hwb, hpool⟩ | ⟨hno, _⟩⟩
  case inr => exact absurd small_good hno
  have hpool : PoolAt w4 pb wb cap smallS smallOn := hpool
  have hk04 := HK03.out.trans' hk4
  have HP4 := hide hpool
  have HK04 := hide hk04
  clear hpool hk04
  clear hk4
  have hs04 := HK04.out.size
  have hs3 := HK03.out.size
  go_wp2_with fail
  refine (pFree_any HP4.out).mono ?_
  rw [small_cnt]
  rintro e w5 ⟨rfl, rfl⟩
  go_wp2_with fail
  refine (pTake_ok HP4.out _ _ 1 8 rfl rfl (by decide) (by rw [small_cnt]; omega)).mono ?_
  rintro e w6 ⟨v6, rfl, hown6, hpool6, hk6⟩
  rw [small_take] at hown6
  have hk06 : Kp [] w w6 := HK04.out.trans hk6 (by simp; omega)
  rcases hown6.cases with ⟨_, hn⟩ | ⟨g, cp, hv, _, _, _, _⟩
  · cases hn
  simp only [List.length_cons, List.length_nil, Nat.zero_add] at hv
  subst hv
  have hcell := hown6.cell rfl 0 (by simp)
  simp only [Nat.zero_mul, Nat.zero_add, fr, ct] at hcell
  obtain ⟨c0, c1⟩ := hcell
  simp at c0 c1
  have HP6 := hide hpool6
  have HK06 := hide hk06
  clear hpool6 hk06
  clear hown6 hk6
  go_wp2_with fail
  refine (pFree_any HP6.out).mono ?_
  rw [small_cnt2]
  rintro e w7 ⟨rfl, rfl⟩
  go_wp2_with fail
  refine (pHas_any HP6.out _).mono ?_
  rw [show (decide ((0 : Int) ≤ 12) && minus smallOn ((order smallS smallOn 1).take 8) (12 : Int).toNat) = false from small_12]
  rintro e w8 ⟨rfl, k8, rfl⟩
  go_wp2_with fail
  refine (pHas_any (HP6.out.drewN _) _).mono ?_
  rw [show (decide ((0 : Int) ≤ 5) && minus smallOn ((order smallS smallOn 1).take 8) (5 : Int).toNat) = true from small_5]
  rintro e w9 ⟨rfl, k9, rfl⟩
  go_wp2_with fail
  refine (newBitmap_any 8 8 (by decide) _).mono ?_
  rintro e w10 ⟨bb, bw, bc, rfl, hbb, hbw, hbm, hk10⟩
  have hk010 : Kp [] w w10 := (HK06.out.drewN _).trans' hk10
  have hs06 := HK06.out.size
  have HBM := hide hbm
  have HK10 := hide hk010
  clear hbm hk010
  clear hk10
  go_wp2_with fail
  refine (bmSet_put HBM.out _ 2 rfl (by omega) false rfl).mono ?_
  rintro e w11 ⟨rfl, hbm11, hk11⟩
  have hk011 : Kp [] w w11 := HK10.out.trans hk11 (by simp at hbb hbw ⊢; omega)
  have HBM11 := hide hbm11
  have HK11 := hide hk011
  clear hbm11 hk011
  clear hk11
  go_wp2_with fail
  refine (bmHas_any HBM11.out _).mono ?_
  rw [show (decide ((0 : Int) ≤ 2) && put (fun _ => false) 2 true (2 : Int).toNat) = true from rfl]
  rintro e w12 ⟨rfl, k12, rfl⟩
  go_wp2_with fail
  refine (bmSet_put (HBM11.out.drewN _) _ 2 rfl (by omega) true rfl).mono ?_
  rintro e w13 ⟨rfl, hbm13, hk13⟩
  have hk013 : Kp [] w w13 := (HK11.out.drewN _).trans hk13 (by simp at hbb hbw ⊢; omega)
  clear hk13 hbm13
  go_wp2_with fail
  go_ret
  exact ⟨rfl, hk013⟩

end Go.Proofs.YtoghdhjeopcjkaaDoor
