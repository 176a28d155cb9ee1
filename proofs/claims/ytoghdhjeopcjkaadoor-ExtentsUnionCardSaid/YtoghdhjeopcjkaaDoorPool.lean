
/- The walks of a pool's small functions. Conditions: the pool lies in memory (PoolAt). -/
import Derived.Test.YtoghdhjeopcjkaaDoorSpans
namespace Go.Proofs.YtoghdhjeopcjkaaDoor
open Go.RowKit

/-- lo <= n && n <= hi -/
def wi (n lo hi : Int) : Bool := decide (lo ≤ n) && decide (n ≤ hi)
theorem wi_iff {n lo hi : Int} : wi n lo hi = true ↔ lo ≤ n ∧ n ≤ hi := by simp [wi]
theorem within_any (n lo hi : Int) (w : World) :
    Calls Tryd.prog 39 #[.int .i64 n, .int .i64 lo, .int .i64 hi] w fun e w' => e = .returned (.bool (wi n lo hi)) ∧ w = w' := by
  unfold wi
  by_cases h : lo ≤ n
  · have hd : decide (lo ≤ n) = true := by simpa using h
    go_enter Tryd.func39, Tryd.ntmps39
    go_wp2
    go_ret
    exact ⟨by simp [hd], rfl⟩
  · have hd : decide (lo ≤ n) = false := by simpa using h
    go_enter Tryd.func39, Tryd.ntmps39
    go_wp2
    go_ret
    exact ⟨by simp, rfl⟩

structure Sh where
  pages : Nat
  inodes : Nat
  cores : Nat
  data : Nat
/-- A shape that Fit gives. -/
structure Sh.Ok (S : Sh) : Prop where
  p1 : 24 ≤ S.pages
  p2 : S.pages ≤ 1024
  i1 : 8 ≤ S.inodes
  i2 : S.inodes ≤ 256
  i3 : S.inodes % 8 = 0
  c1 : 1 ≤ S.cores
  c2 : S.cores ≤ 8
  d1 : S.data = 4 + S.inodes / 8
  d2 : S.data + 8 ≤ S.pages
def Sh.vals (S : Sh) : List Value := [.int .i64 S.pages, .int .i64 S.inodes, .int .i64 S.cores, .int .i64 S.data]

/-- Fit's test, of any numbers. -/
def fits (p i c : Int) : Bool := wi p 24 1024 && wi i 8 256 && (i % 8 == 0) && wi c 1 8 && decide (4 + i / 8 + 8 ≤ p)

set_option maxHeartbeats 1000000 in
theorem fit_yes (p i c : Int) (h : fits p i c = true) (w : World) :
    Calls Tryd.prog 34 #[.agg #[.int .i64 p, .int .i64 i, .int .i64 c]] w fun e w' => e = .returned (.tuple #[.agg #[.int .i64 p, .int .i64 i, .int .i64 c, .int .i64 (4 + i / 8)], .int .i64 0]) ∧ Kp [] w w' := by
  simp only [fits, Bool.and_eq_true, decide_eq_true_eq, beq_iff_eq] at h
  obtain ⟨⟨⟨⟨h1, h2⟩, h3⟩, h4⟩, h5⟩ := h
  have a1 := wi_iff.1 h1
  have a2 := wi_iff.1 h2
  have a4 := wi_iff.1 h4
  obtain ⟨b1, b2⟩ := a1
  obtain ⟨b3, b4⟩ := a2
  obtain ⟨b5, b6⟩ := a4
  have g3 : (i % 8 != 0) = false := by simp [h3]
  have HD : Hid ((i * 64 + 2048) / 512 = 4 + i / 8 ∧ (2048 + i * 64) / 512 = 4 + i / 8) := ⟨by omega, by omega⟩
  have g5 : ¬ p - (2048 + i * 64) / 512 < 8 := by rw [HD.out.2]; omega
  clear h3
  go_enter Tryd.func34, Tryd.ntmps34
  go_wp2_with (go_at_call 39; refine (within_any _ _ _ _).mono ?_; rintro e w' ⟨rfl, rfl⟩)
  refine bodyPost_ret (v := .tuple #[.agg #[.int .i64 p, .int .i64 i, .int .i64 c, .int .i64 (4 + i / 8)], .int .i64 0]) (by simp [results, Tryd.results34, go_sem]; exact HD.out.2) rfl ⟨rfl, ?_⟩
  exact (((Kp.refl _ _).alloc _).alloc _)

set_option maxHeartbeats 1000000 in
theorem fit_no (p i c : Int) (h : fits p i c = false) (w : World) :
    Calls Tryd.prog 34 #[.agg #[.int .i64 p, .int .i64 i, .int .i64 c]] w fun e w' => e = .returned (.tuple #[.agg #[.int .i64 0, .int .i64 0, .int .i64 0, .int .i64 0], .int .i64 30]) ∧ Kp [] w w' := by
  cases h1 : wi p 24 1024 with
  | false =>
    clear h
    go_enter Tryd.func34, Tryd.ntmps34
    go_wp2_with (go_at_call 39; refine (within_any _ _ _ _).mono ?_; rintro e w' ⟨rfl, rfl⟩)
    refine bodyPost_ret (v := .tuple #[.agg #[.int .i64 0, .int .i64 0, .int .i64 0, .int .i64 0], .int .i64 30]) (by simp [results, Tryd.results34, go_sem]) rfl ⟨rfl, ?_⟩
    exact (((Kp.refl _ _).alloc _).alloc _)
  | true =>
  cases h2 : wi i 8 256 with
  | false =>
    clear h
    go_enter Tryd.func34, Tryd.ntmps34
    go_wp2_with (go_at_call 39; refine (within_any _ _ _ _).mono ?_; rintro e w' ⟨rfl, rfl⟩)
    refine bodyPost_ret (v := .tuple #[.agg #[.int .i64 0, .int .i64 0, .int .i64 0, .int .i64 0], .int .i64 30]) (by simp [results, Tryd.results34, go_sem]) rfl ⟨rfl, ?_⟩
    exact (((Kp.refl _ _).alloc _).alloc _)
  | true =>
  have a1 := wi_iff.1 h1
  have a2 := wi_iff.1 h2
  obtain ⟨b1, b2⟩ := a1
  obtain ⟨b3, b4⟩ := a2
  by_cases h3 : i % 8 = 0
  case neg =>
    have g3 : (i % 8 != 0) = true := by simpa using h3
    clear h h3
    go_enter Tryd.func34, Tryd.ntmps34
    go_wp2_with (go_at_call 39; refine (within_any _ _ _ _).mono ?_; rintro e w' ⟨rfl, rfl⟩)
    refine bodyPost_ret (v := .tuple #[.agg #[.int .i64 0, .int .i64 0, .int .i64 0, .int .i64 0], .int .i64 30]) (by simp [results, Tryd.results34, go_sem]) rfl ⟨rfl, ?_⟩
    exact (((Kp.refl _ _).alloc _).alloc _)
  case pos =>
  have g3 : (i % 8 != 0) = false := by simp [h3]
  cases h4 : wi c 1 8 with
  | false =>
    clear h h3
    go_enter Tryd.func34, Tryd.ntmps34
    go_wp2_with (go_at_call 39; refine (within_any _ _ _ _).mono ?_; rintro e w' ⟨rfl, rfl⟩)
    refine bodyPost_ret (v := .tuple #[.agg #[.int .i64 0, .int .i64 0, .int .i64 0, .int .i64 0], .int .i64 30]) (by simp [results, Tryd.results34, go_sem]) rfl ⟨rfl, ?_⟩
    exact (((Kp.refl _ _).alloc _).alloc _)
  | true =>
    have g5 : p - (2048 + i * 64) / 512 < 8 := by
      simp only [fits, h1, h2, h4, Bool.true_and, Bool.and_true] at h
      simp [h3] at h
      omega
    clear h h3
    go_enter Tryd.func34, Tryd.ntmps34
    go_wp2_with (go_at_call 39; refine (within_any _ _ _ _).mono ?_; rintro e w' ⟨rfl, rfl⟩)
    refine bodyPost_ret (v := .tuple #[.agg #[.int .i64 0, .int .i64 0, .int .i64 0, .int .i64 0], .int .i64 30]) (by simp [results, Tryd.results34, go_sem]) rfl ⟨rfl, ?_⟩
    exact (((Kp.refl _ _).alloc _).alloc _)

/-- A place from 0 to n - 1 by any number. -/
theorem place_any (at_ n : Int) (h : 1 ≤ n) (hb : n ≤ 4096) (hw : at_ ≤ 9223372036854775807 ∧ -9223372036854775808 ≤ at_) (w : World) :
    Calls Tryd.prog 7 #[.int .i64 at_, .int .i64 n] w fun e w' => e = .returned (.int .i64 (at_ % n)) ∧ w = w' := by
  obtain ⟨hw1, hw2⟩ := hw
  have e1 : at_.tmod n = if at_ % n = 0 then 0 else if 0 ≤ at_ then at_ % n else at_ % n - n := by
    rw [Int.tmod_eq_emod]
    by_cases h0 : 0 ≤ at_ <;> by_cases hm : at_ % n = 0 <;> simp [h0, hm, Int.dvd_iff_emod_eq_zero] <;> omega
  have l1 := Int.emod_nonneg at_ (show n ≠ 0 by omega)
  have l2 := Int.emod_lt_of_pos at_ (show 0 < n by omega)
  by_cases c : at_.tmod n < 0
  · have E0 : at_.tmod n + n = at_ % n := by rw [e1] at c ⊢; split at c <;> (try split at c) <;> simp_all <;> omega
    have E := hide E0
    clear E0
    have u1 : 0 ≤ at_.tmod n + n := by have := E.out; omega
    clear e1
    go_enter Tryd.func7, Tryd.ntmps7
    go_wp2
    go_ret
    exact ⟨by simp; exact E.out, rfl⟩
  · have E0 : at_.tmod n = at_ % n := by rw [e1] at c ⊢; split at c <;> (try split at c) <;> simp_all <;> omega
    have E := hide E0
    clear E0
    clear e1
    go_enter Tryd.func7, Tryd.ntmps7
    go_wp2
    go_ret
    exact ⟨by simp; exact E.out, rfl⟩

section
variable {w : World} {b wb cap : Nat} {on : Nat → Bool} {S : Sh}

/-- A pool lies in block b, its words in block wb. -/
structure PoolAt (w : World) (b wb cap : Nat) (S : Sh) (on : Nat → Bool) : Prop where
  m : MarksAt w b wb cap 81 S.vals S.pages on
  ok : S.Ok
  low : ∀ i, i < S.data → on i = false
theorem PoolAt.keep {L : List Nat} {w' : World} (h : PoolAt w b wb cap S on) (k : Kp L w w') (h1 : b ∉ L) (h2 : wb ∉ L) : PoolAt w' b wb cap S on := ⟨h.m.keep k h1 h2, h.ok, h.low⟩
theorem PoolAt.drewN (h : PoolAt w b wb cap S on) (k : Nat) : PoolAt (w.drewN k) b wb cap S on := ⟨h.m.drewN k, h.ok, h.low⟩
theorem PoolAt.c3 (h : PoolAt w b wb cap S on) : w.cell? ⟨b, 3, none⟩ = some (.int .i64 S.pages) := by rw [show (3 : Nat) = 0 + 3 by rfl, h.m.c3]; rfl
theorem PoolAt.c5 (h : PoolAt w b wb cap S on) : w.cell? ⟨b, 5, none⟩ = some (.int .i64 S.cores) := by rw [show (5 : Nat) = 2 + 3 by rfl, h.m.c3]; rfl
theorem PoolAt.c6 (h : PoolAt w b wb cap S on) : w.cell? ⟨b, 6, none⟩ = some (.int .i64 S.data) := by rw [show (6 : Nat) = 3 + 3 by rfl, h.m.c3]; rfl

theorem isCore_any (h : PoolAt w b wb cap S on) (c : Int) :
    Calls Tryd.prog 35 #[.pointer (some ⟨b, 0, none⟩), .int .i64 c] w fun e w' => e = .returned (.bool (decide (0 ≤ c) && decide (c < S.cores))) ∧ w = w' := by
  have c5 := h.c5
  clear h
  by_cases h1 : 0 ≤ c
  · have hd : decide (0 ≤ c) = true := by simpa using h1
    go_enter Tryd.func35, Tryd.ntmps35
    go_wp2
    go_ret
    exact ⟨by simp [hd], rfl⟩
  · have hd : decide (0 ≤ c) = false := by simpa using h1
    go_enter Tryd.func35, Tryd.ntmps35
    go_wp2
    go_ret
    exact ⟨by simp, rfl⟩
theorem pFree_any (h : PoolAt w b wb cap S on) :
    Calls Tryd.prog 18 #[.pointer (some ⟨b, 0, none⟩)] w fun e w' => e = .returned (.int .i64 (cnt on S.pages)) ∧ w = w' := by
  have c1 := h.m.c1
  clear h
  go_enter Tryd.func18, Tryd.ntmps18
  go_wp2
  go_ret
  exact ⟨rfl, rfl⟩
theorem pHas_any (h : PoolAt w b wb cap S on) (i : Int) :
    Calls Tryd.prog 20 #[.pointer (some ⟨b, 0, none⟩), .int .i64 i] w fun e w' => e = .returned (.bool (decide (0 ≤ i) && on i.toNat)) ∧ ∃ k, w' = w.drewN k := by
  have H := hide h.m
  clear h
  go_enter Tryd.func20, Tryd.ntmps20
  go_wp2_with (go_at_call 30; refine (mhas_any H.out _).mono ?_; rintro e w' ⟨rfl, kk, rfl⟩)
  go_ret
  exact ⟨rfl, _, rfl⟩
end
end Go.Proofs.YtoghdhjeopcjkaaDoor
