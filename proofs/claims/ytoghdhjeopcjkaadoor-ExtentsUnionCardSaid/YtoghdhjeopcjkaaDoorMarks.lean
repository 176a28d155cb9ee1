
/- The walks of a bitmap's inner functions: has, set, clear. Conditions: the bitmap lies in memory (MarksAt). -/
import Derived.Test.YtoghdhjeopcjkaaDoorBase
import Derived.Deep.RegionLaw
import Derived.Deep.RegionWith
namespace Go.Proofs.YtoghdhjeopcjkaaDoor
open Go.RowKit

section
variable {w : World} {b wb cap T : Nat} {tail : List Value} {n : Nat} {on : Nat → Bool}

/-- marks.has -/
theorem mhas_any (h : MarksAt w b wb cap T tail n on) (i : Int) :
    Calls Tryd.prog 30 #[.pointer (some ⟨b, 0, none⟩), .int .i64 i] w fun e w' => e = .returned (.bool (decide (0 ≤ i) && on i.toNat)) ∧ ∃ k, w' = w.drewN k := by
  have c0 := h.c0
  have c2 := h.c2
  by_cases h1 : 0 ≤ i
  · obtain ⟨i, rfl⟩ := Int.eq_ofNat_of_zero_le h1
    by_cases h2 : i < n
    · obtain ⟨x, cw, hx⟩ := h.word h2
      have hr := word_has hx
      have hd : decide ((0 : Int) ≤ (i : Int)) = true := by simp
      have hl := h.nle
      have hi2 : i / 64 < (n + 63) / 64 := by omega
      have H := hide hr
      clear hr h hx
      go_enter Tryd.func30, Tryd.ntmps30
      go_wp2
      go_quiet (fail)
      go_wp2
      go_ret
      refine ⟨?_, _, rfl⟩
      have hr := H.out
      simp at hr ⊢
      exact hr
    · have hd : decide ((i : Int) < (n : Int)) = false := by simp; omega
      have hf : on i = false := h.off i (by omega)
      have H := hide hf
      clear h hf
      go_enter Tryd.func30, Tryd.ntmps30
      go_wp2
      go_quiet (fail)
      go_wp2
      go_ret
      refine ⟨?_, _, rfl⟩
      simp [H.out]
  · have hd : decide (0 ≤ i) = false := by simpa using h1
    clear h
    go_enter Tryd.func30, Tryd.ntmps30
    go_wp2
    go_quiet (fail)
    go_wp2
    go_ret
    exact ⟨by simp [hd], _, rfl⟩

theorem mhas_nat (h : MarksAt w b wb cap T tail n on) (x : Int) (i : Nat) (hx : x = i) (v : Bool) (hv : on i = v) :
    Calls Tryd.prog 30 #[.pointer (some ⟨b, 0, none⟩), .int .i64 x] w fun e w' => e = .returned (.bool v) ∧ ∃ k, w' = w.drewN k := by
  subst hx; subst hv
  refine (mhas_any h _).mono ?_
  rintro e w' ⟨rfl, h2⟩
  exact ⟨by simp, h2⟩

/-- marks.set -/
theorem mset_any (h : MarksAt w b wb cap T tail n on) (i : Nat) (hi : i < n) (hoff : on i = false) :
    Calls Tryd.prog 29 #[.pointer (some ⟨b, 0, none⟩), .int .i64 i] w fun e w' => e = .returned (.bool true) ∧ MarksAt w' b wb cap T tail n (put on i true) ∧ Kp [b, wb] w w' := by
  have c0 := h.c0
  have c1 := h.c1
  have c2 := h.c2
  have f1 := h.f 1
  have f2 := h.wf (i / 64)
  have hne := h.ne
  obtain ⟨x, cw, hx⟩ := h.word hi
  have hl := h.nle
  have hcl := h.cntle
  have hi2 : i / 64 < (n + 63) / 64 := by omega
  have d1 : decide ((i : Int) < 0) = false := by simp
  have d2 : decide (n ≤ i) = false := by simp; omega
  have H := hide h
  have HX := hide hx
  clear h hx
  go_enter Tryd.func29, Tryd.ntmps29
  go_wp2_with (go_at_call 30; refine (mhas_any H.out _).mono ?_; rintro e w' ⟨rfl, k, rfl⟩)
  go_region
  go_wp2
  go_ret
  obtain ⟨y, e1, hy⟩ := word_set HX.out
  rw [e1]
  exact ⟨rfl, (H.out.drewN _).turn true hi hy (by rw [cnt_put_on hi hoff]; omega), (((Kp.refl _ _).drewN _).set (by simp) _).set (by simp) _⟩

/-- marks.set, of what isn't a mark that is off -/
theorem mset_no (h : MarksAt w b wb cap T tail n on) (i : Int) (hi : i < 0 ∨ (n : Int) ≤ i ∨ on i.toNat = true) :
    Calls Tryd.prog 29 #[.pointer (some ⟨b, 0, none⟩), .int .i64 i] w fun e w' => e = .returned (.bool false) ∧ ∃ k, w' = w.drewN k := by
  have c0 := h.c0
  have H := hide h
  clear h
  by_cases d1 : i < 0
  · go_enter Tryd.func29, Tryd.ntmps29
    go_wp2
    go_ret
    exact ⟨rfl, 0, rfl⟩
  · by_cases d2 : (n : Int) ≤ i
    · go_enter Tryd.func29, Tryd.ntmps29
      go_wp2
      go_ret
      exact ⟨rfl, 0, rfl⟩
    · have h3 : (decide (0 ≤ i) && on i.toNat) = true := by
        rcases hi with h | h | h
        · omega
        · omega
        · simp [h]; omega
      have H3 := hide h3
      clear h3 hi
      go_enter Tryd.func29, Tryd.ntmps29
      go_wp2_with (go_at_call 30; refine (mhas_any H.out _).mono ?_; rw [H3.out]; rintro e w' ⟨rfl, k, rfl⟩)
      go_ret
      exact ⟨rfl, _, rfl⟩

/-- marks.clear of a mark that is on -/
theorem mclear_any (h : MarksAt w b wb cap T tail n on) (i : Nat) (hi : i < n) (hon : on i = true) :
    Calls Tryd.prog 37 #[.pointer (some ⟨b, 0, none⟩), .int .i64 i] w fun e w' => e = .returned (.tuple #[]) ∧ MarksAt w' b wb cap T tail n (put on i false) ∧ Kp [b, wb] w w' := by
  have c0 := h.c0
  have c1 := h.c1
  have c2 := h.c2
  have f1 := h.f 1
  have f2 := h.wf (i / 64)
  have hne := h.ne
  obtain ⟨x, cw, hx⟩ := h.word hi
  have hl := h.nle
  have hcl := h.cntle
  have hcp := cnt_put_off hi hon
  have hi2 : i / 64 < (n + 63) / 64 := by omega
  have hon' : (decide ((0 : Int) ≤ (i : Int)) && on ((i : Int)).toNat) = true := by simp [hon]
  have H := hide h
  have HX := hide hx
  have H3 := hide hon'
  have HC := hide hcp
  have hcn : 1 ≤ cnt on n := by omega
  clear h hx hon' hon hcp
  go_enter Tryd.func37, Tryd.ntmps37
  go_wp2_with (go_at_call 30; refine (mhas_any H.out _).mono ?_; rw [H3.out]; rintro e w' ⟨rfl, k, rfl⟩)
  go_region
  go_wp2
  go_end0
  have hcp := HC.out
  obtain ⟨y, e1, hy⟩ := word_clear HX.out
  rw [e1]
  exact ⟨rfl, (H.out.drewN _).turn false hi hy (by omega), (((Kp.refl _ _).drewN _).set (by simp) _).set (by simp) _⟩
end
end Go.Proofs.YtoghdhjeopcjkaaDoor
