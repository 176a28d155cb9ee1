
/- The walks of newMarks, Area, Core, Spans, and of the law's shape, small, whole. Conditions: the pool lies in memory (PoolAt). -/
import Derived.Test.YtoghdhjeopcjkaaDoorPool
import Derived.Deep.OwnRows
import Derived.StillTailTactics
namespace Go.Proofs.YtoghdhjeopcjkaaDoor
open Go.RowKit

/-- Where core c's area begins. -/
def Sh.lo (S : Sh) (c : Nat) : Nat := S.data + c * (S.pages - S.data) / S.cores
theorem Sh.lo_zero (S : Sh) : S.lo 0 = S.data := by simp [Sh.lo]
theorem Sh.lo_last {S : Sh} (h : S.Ok) : S.lo S.cores = S.pages := by
  have := h.c1; have := h.d2
  rw [Sh.lo, Nat.mul_div_cancel_left _ (by omega)]; omega
theorem Sh.lo_mono {S : Sh} (c d : Nat) (hd : c ≤ d) : S.lo c ≤ S.lo d := by
  unfold Sh.lo
  have := Nat.div_le_div_right (c := S.cores) (Nat.mul_le_mul_right (S.pages - S.data) hd)
  omega
theorem Sh.lo_step {S : Sh} (h : S.Ok) (c : Nat) : (S.pages - S.data) / S.cores ≤ S.lo (c + 1) - S.lo c ∧ S.lo (c + 1) - S.lo c ≤ (S.pages - S.data) / S.cores + 1 := by
  have h1 := h.c1
  unfold Sh.lo
  generalize S.pages - S.data = D
  generalize S.cores = C at *
  have e : (c + 1) * D = c * D + D := by rw [Nat.succ_mul]
  rw [e]
  generalize c * D = x
  have a1 := Nat.div_add_mod x C
  have a2 := Nat.div_add_mod D C
  have a3 := Nat.div_add_mod (x + D) C
  have a4 := Nat.mod_lt x (show C > 0 by omega)
  have a5 := Nat.mod_lt D (show C > 0 by omega)
  have a6 := Nat.mod_lt (x + D) (show C > 0 by omega)
  generalize x / C = q at *
  generalize D / C = r at *
  generalize (x + D) / C = s at *
  have b1 : C * (q + r) ≤ C * s + C - 1 := by rw [Nat.mul_add]; omega
  have b2 : C * s < C * (q + r + 2) := by rw [Nat.mul_add, Nat.mul_add]; omega
  have b3 : s < q + r + 2 := Nat.lt_of_mul_lt_mul_left b2
  have b4 : q + r < s + 1 := by
    refine Nat.lt_of_mul_lt_mul_left (a := C) ?_
    rw [Nat.mul_add C s 1]; omega
  omega
theorem Sh.lo_lt {S : Sh} (h : S.Ok) (c : Nat) : S.lo c < S.lo (c + 1) := by
  have h1 := (Sh.lo_step h c).1
  have h2 : 1 ≤ (S.pages - S.data) / S.cores := by
    rw [Nat.le_div_iff_mul_le (by have := h.c1; omega)]; have := h.c2; have := h.d2; omega
  omega
theorem Sh.lo_bd {S : Sh} (h : S.Ok) (c : Nat) (hc : c ≤ S.cores) : S.lo c ≤ S.pages := by rw [← Sh.lo_last h]; exact Sh.lo_mono _ _ hc

section
variable {w : World} {b wb cap : Nat} {on : Nat → Bool} {S : Sh}

set_option maxHeartbeats 1000000 in
theorem pArea_in (h : PoolAt w b wb cap S on) (c : Int) (c' : Nat) (hc' : c = c') (hc : c' < S.cores) :
    Calls Tryd.prog 36 #[.pointer (some ⟨b, 0, none⟩), .int .i64 c] w fun e w' => e = .returned (.agg #[.int .i64 (S.lo c'), .int .i64 ((S.lo (c' + 1) - S.lo c' : Nat) : Int)]) ∧ Kp [] w w' := by
  subst hc'
  have hbl := h.m.lt
  have c3 := h.c3
  have c5 := h.c5
  have c6 := h.c6
  have ok := h.ok
  have o1 := ok.c2; have o2 := ok.d2; have o3 := ok.p2; have o4 := ok.c1
  have hm := Sh.lo_mono (S := S) c' (c' + 1) (by omega)
  have hb1 := Sh.lo_bd ok (c' + 1) (by omega)
  have H := hide h
  have hr : (decide ((0 : Int) ≤ (c' : Int)) && decide ((c' : Int) < (S.cores : Int))) = true := by simp; omega
  have HR := hide hr
  obtain ⟨D, hD⟩ : ∃ D : Nat, S.pages - S.data = D := ⟨_, rfl⟩
  have hD2 : (S.pages : Int) - S.data = (D : Int) := by omega
  have hD3 : D ≤ 1024 := by omega
  have hx : c' * D ≤ 8 * 1024 := Nat.mul_le_mul (by omega) hD3
  have hy : (c' + 1) * D ≤ 8 * 1024 := Nat.mul_le_mul (by omega) hD3
  have hx2 : (c' : Int) * (D : Int) = ((c' * D : Nat) : Int) := by simp
  have hy2 : ((c' : Int) + 1) * (D : Int) = (((c' + 1) * D : Nat) : Int) := by simp
  obtain ⟨x, hxx⟩ : ∃ x, c' * D = x := ⟨_, rfl⟩
  obtain ⟨y, hyy⟩ : ∃ y, (c' + 1) * D = y := ⟨_, rfl⟩
  rw [hxx] at hx hx2
  rw [hyy] at hy hy2
  have q1 := Nat.div_le_self x S.cores
  have q2 := Nat.div_le_self y S.cores
  have E1 : S.lo c' = S.data + x / S.cores := by rw [← hxx, ← hD]; rfl
  have E2 : S.lo (c' + 1) = S.data + y / S.cores := by rw [← hyy, ← hD]; rfl
  have r1 : (x : Int) / (S.cores : Int) = ((x / S.cores : Nat) : Int) := by simp
  have r2 : (y : Int) / (S.cores : Int) = ((y / S.cores : Nat) : Int) := by simp
  generalize x / S.cores = u1 at q1 E1 r1
  generalize y / S.cores = u2 at q2 E2 r2
  have q3 : u1 ≤ u2 := by omega
  have E1 := hide E1
  have E2 := hide E2
  clear h hr hxx hyy hD
  go_enter Tryd.func36, Tryd.ntmps36
  go_wp2_with (go_at_call 35; refine (isCore_any (H.out.keep ((Kp.refl [] _).alloc _) (by simp) (by simp)) _).mono ?_; rw [HR.out]; rintro e w' ⟨rfl, rfl⟩)
  go_region
  go_wp2
  refine bodyPost_ret (v := .agg #[.int .i64 (S.lo c'), .int .i64 ((S.lo (c' + 1) - S.lo c' : Nat) : Int)]) ?_ rfl ⟨rfl, ?_⟩
  · have e1 := E1.out
    have e2 := E2.out
    have e3 : ((S.lo (c' + 1) - S.lo c' : Nat) : Int) = (u2 : Int) - (u1 : Int) := by omega
    have e4 : (S.lo c' : Int) = (S.data : Int) + (u1 : Int) := by omega
    rw [e3, e4]
    simp [results, Tryd.results36, go_sem]
  · repeat (first | exact Kp.refl _ _ | apply Kp.drewN | apply Kp.drew | apply Kp.alloc | (refine Kp.set ?_ (.inr (Nat.le_refl _)) _))

theorem pArea_as (h : PoolAt w b wb cap S on) (c : Int) (c' F C : Nat) (hc' : c = c') (hc : c' < S.cores) (hF : S.lo c' = F) (hC : S.lo (c' + 1) = F + C) :
    Calls Tryd.prog 36 #[.pointer (some ⟨b, 0, none⟩), .int .i64 c] w fun e w' => e = .returned (.agg #[.int .i64 F, .int .i64 C]) ∧ Kp [] w w' := by
  have e : S.lo (c' + 1) - S.lo c' = C := by omega
  have h2 := pArea_in h c c' hc' hc
  rw [e, hF] at h2
  exact h2

theorem pArea_out (h : PoolAt w b wb cap S on) (c : Int) (hc : c < 0 ∨ (S.cores : Int) ≤ c) :
    Calls Tryd.prog 36 #[.pointer (some ⟨b, 0, none⟩), .int .i64 c] w fun e w' => e = .returned (.agg #[.int .i64 0, .int .i64 0]) ∧ Kp [] w w' := by
  have H := hide h
  have hr : (decide ((0 : Int) ≤ c) && decide (c < (S.cores : Int))) = false := by
    rw [Bool.and_eq_false_iff, decide_eq_false_iff_not, decide_eq_false_iff_not]; omega
  have HR := hide hr
  clear h hr hc
  go_enter Tryd.func36, Tryd.ntmps36
  go_wp2_with (go_at_call 35; refine (isCore_any (H.out.keep ((Kp.refl [] _).alloc _) (by simp) (by simp)) _).mono ?_; rw [HR.out]; rintro e w' ⟨rfl, rfl⟩)
  refine bodyPost_ret (v := .agg #[.int .i64 0, .int .i64 0]) (by simp [results, Tryd.results36, go_sem]) rfl ⟨rfl, ?_⟩
  repeat (first | exact Kp.refl _ _ | apply Kp.drewN | apply Kp.drew | apply Kp.alloc | (refine Kp.set ?_ (.inr (Nat.le_refl _)) _))

/-- The free pages in [lo, hi). -/
def runs (on : Nat → Bool) (lo hi : Nat) : Sps := runsTo on lo (hi - lo)
theorem runs_none (on : Nat → Bool) (lo hi : Nat) (h : ∀ i, lo ≤ i → i < hi → on i = false) : runs on lo hi = [] := by
  unfold runs
  have : ∀ k, k ≤ hi - lo → runsTo on lo k = [] := by
    intro k
    induction k with
    | zero => intro _; rfl
    | succ k ih => intro hk; simp only [runsTo]; rw [h (lo + k) (by omega) (by omega), ih (by omega)]; rfl
  exact this _ (Nat.le_refl _)
theorem eq_true_fun (on : Nat → Bool) : (fun i => on i == true) = on := by funext i; simp

theorem mspans_nat {T n : Nat} {tail : List Value} (h : MarksAt w b wb cap T tail n on) (lo hi : Int) (l h' : Nat) (hl : lo = l) (hh : hi = h') (hln : l ≤ n) (hhn : h' ≤ n) :
    Calls Tryd.prog 33 #[.pointer (some ⟨b, 0, none⟩), .int .i64 lo, .int .i64 hi, .bool true] w fun e w' =>
      ∃ v, e = .returned v ∧ Own w' w.heap.size v (runs on l h') ∧ Kp [] w w' := by
  subst hl; subst hh
  have h3 := mspans_any h (l : Int) (h' : Int) true l h'
    (by have := mx_le (l : Int) 0; have := mn_le (mx (l : Int) 0) n; omega) (by have := mn_le (h' : Int) n; have := mx_le (mn (h' : Int) n) 0; omega)
  rw [eq_true_fun] at h3
  exact h3

theorem Own.form {base : Nat} {v : Value} {l : Sps} (h : Own w base v l) : ∃ a cap, v = .slice a l.length cap := by
  rcases h.cases with ⟨rfl, rfl⟩ | ⟨g, cp, rfl, _⟩
  · exact ⟨_, _, rfl⟩
  · exact ⟨_, _, rfl⟩
theorem mspans_sl {T n : Nat} {tail : List Value} (h : MarksAt w b wb cap T tail n on) (lo hi : Int) (l h' : Nat) (hl : lo = l) (hh : hi = h') (hln : l ≤ n) (hhn : h' ≤ n) (L : Sps) (hL : runs on l h' = L) :
    Calls Tryd.prog 33 #[.pointer (some ⟨b, 0, none⟩), .int .i64 lo, .int .i64 hi, .bool true] w fun e w' =>
      ∃ a cp, e = .returned (.slice a L.length cp) ∧ Own w' w.heap.size (.slice a L.length cp) L ∧ Kp [] w w' := by
  refine (mspans_nat h lo hi l h' hl hh hln hhn).mono ?_
  rintro e w' ⟨v, rfl, ho, hk⟩
  rw [hL] at ho
  obtain ⟨a, cp, rfl⟩ := ho.form
  exact ⟨a, cp, rfl, ho, hk⟩

end
end Go.Proofs.YtoghdhjeopcjkaaDoor
