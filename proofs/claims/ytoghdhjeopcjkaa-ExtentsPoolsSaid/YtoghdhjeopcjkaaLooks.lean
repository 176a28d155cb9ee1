/- The walk of the laws' looks. Conditions: a pool and the reference's pool say the same. -/
import Derived.Test.YtoghdhjeopcjkaaRef8
namespace Go.Proofs.Ytoghdhjeopcjkaa
open Go.RowKit Go.Deep

/-- A core's area: nothing, if it is none. -/
def arF (S : Sh) (c : Int) : Nat := if 0 ≤ c ∧ c < S.cores then S.lo c.toNat else 0
def arC (S : Sh) (c : Int) : Nat := if 0 ≤ c ∧ c < S.cores then S.lo (c.toNat + 1) - S.lo c.toNat else 0
def coOf (S : Sh) (on : Nat → Bool) (c : Int) : Sps := if 0 ≤ c ∧ c < S.cores then runs on (S.lo c.toNat) (S.lo (c.toNat + 1)) else []
section
variable {w : World} {b wb cap rb mb rc : Nat} {S : Sh} {on : Nat → Bool}
theorem pArea_all (h : PoolAt w b wb cap S on) (c : Int) :
    Calls Try.prog 16 #[.pointer (some ⟨b, 0, none⟩), .int .i64 c] w fun e w' => e = .returned (.agg #[.int .i64 (arF S c), .int .i64 (arC S c)]) ∧ Kp [] w w' := by
  by_cases hc : 0 ≤ c ∧ c < S.cores
  · have e1 : arF S c = S.lo c.toNat := if_pos hc
    have e2 : arC S c = S.lo (c.toNat + 1) - S.lo c.toNat := if_pos hc
    rw [e1, e2]
    exact pArea_in h c c.toNat (by omega) (by omega)
  · have e1 : arF S c = 0 := if_neg hc
    have e2 : arC S c = 0 := if_neg hc
    rw [e1, e2]
    exact pArea_out h c (by omega)
theorem rArea_all (h : RefAt w rb mb rc S on) (c : Int) :
    Calls Try.prog 66 #[.pointer (some ⟨rb, 0, none⟩), .int .i64 c] w fun e w' => e = .returned (.agg #[.int .i64 (arF S c), .int .i64 (arC S c)]) ∧ Kp [] w w' := by
  by_cases hc : 0 ≤ c ∧ c < S.cores
  · have e1 : arF S c = S.lo c.toNat := if_pos hc
    have e2 : arC S c = S.lo (c.toNat + 1) - S.lo c.toNat := if_pos hc
    rw [e1, e2]
    exact rArea_in h c c.toNat _ _ (by omega) (by omega) rfl (by have := Sh.lo_lt h.ok c.toNat; omega)
  · have e1 : arF S c = 0 := if_neg hc
    have e2 : arC S c = 0 := if_neg hc
    rw [e1, e2]
    exact rArea_out h c (by omega)
set_option maxHeartbeats 1000000 in
set_option maxRecDepth 100000 in
theorem pCore_out (h : PoolAt w b wb cap S on) (c : Int) (hc : c < 0 ∨ (S.cores : Int) ≤ c) :
    Calls Try.prog 17 #[.pointer (some ⟨b, 0, none⟩), .int .i64 c] w fun e w' => ∃ v, e = .returned v ∧ Own w' w.heap.size v [] ∧ Kp [] w w' := by
  have H := hide h
  clear h
  go_enter Try.func17, Try.ntmps17
  go_wp2_with (go_at_call 16; refine (pArea_out H.out _ hc).mono ?_; rintro e w1 ⟨rfl, hk1⟩)
  have HK := hide hk1
  clear hk1
  refine wp_region_still_tail 10 (by kernel_rfl) (by kernel_rfl) ?_
  simp only [List.take_succ_cons, List.take_zero, List.drop_succ_cons, List.drop_zero]
  change wpStill _ _ (World.drew _) _ _ _
  repeat (refine wpStill_step (fun K hK => ?_); go_simp; refine hK _ ?_; clear hK K)
  refine wpStill_nil ?_
  change wpList _ _ _ _ _ (World.drewN _ 1)
  go_wp2_with (go_at_call 45; refine (mspans_nat ((H.out.keep HK.out (by simp) (by simp)).m.keep (((Kp.refl [] _).alloc _).drewN 1) (by simp) (by simp)) _ _ 0 0 (by omega) (by omega) (by omega) (by omega)).mono ?_; rintro e w2 ⟨v, rfl, hown, hk2⟩)
  go_ret
  have hk1 := HK.out
  exact ⟨v, rfl, hown.low (by have := hk1.size; simp; omega), hk1.trans (((Kp.refl [] _).alloc _ |>.drewN 1).trans' hk2) (by simp)⟩
theorem pCore_all (h : PoolAt w b wb cap S on) (c : Int) :
    Calls Try.prog 17 #[.pointer (some ⟨b, 0, none⟩), .int .i64 c] w fun e w' => ∃ v, e = .returned v ∧ Own w' w.heap.size v (coOf S on c) ∧ Kp [] w w' := by
  by_cases hc : 0 ≤ c ∧ c < S.cores
  · have e1 : coOf S on c = runs on (S.lo c.toNat) (S.lo (c.toNat + 1)) := if_pos hc
    rw [e1]
    exact pCore_in h c c.toNat (by omega) (by omega)
  · have e1 : coOf S on c = [] := if_neg hc
    rw [e1]
    exact pCore_out h c (by omega)
theorem rCore_all (h : RefAt w rb mb rc S on) (c : Int) :
    Calls Try.prog 70 #[.pointer (some ⟨rb, 0, none⟩), .int .i64 c] w fun e w' => ∃ v, e = .returned v ∧ Own w' w.heap.size v (coOf S on c) ∧ Kp [] w w' := by
  by_cases hc : 0 ≤ c ∧ c < S.cores
  · have e1 : coOf S on c = runs on (S.lo c.toNat) (S.lo (c.toNat + 1)) := if_pos hc
    rw [e1]
    exact rCore_in h c c.toNat (by omega) (by omega)
  · have e1 : coOf S on c = [] := if_neg hc
    rw [e1]
    exact rCore_out h c (by omega)
theorem coOf_length (ok : S.Ok) (c : Int) : (coOf S on c).length ≤ 1024 := by
  unfold coOf
  split
  · rename_i hc
    have h1 := runsTo_length on (S.lo c.toNat) (S.lo (c.toNat + 1) - S.lo c.toNat)
    have h2 := Sh.lo_bd ok (c.toNat + 1) (by omega)
    have := ok.p2
    show (runsTo _ _ _).length ≤ 1024
    omega
  · simp
/-- A pool and the reference's pool that say the same. -/
structure Twin (w : World) (b wb cap rb mb rc : Nat) (S : Sh) (on : Nat → Bool) : Prop where
  pool : PoolAt w b wb cap S on
  ref : RefAt w rb mb rc S on
theorem Twin.keep0 {w' : World} (h : Twin w b wb cap rb mb rc S on) (k : Kp [] w w') : Twin w' b wb cap rb mb rc S on := ⟨h.pool.keep k (by simp) (by simp), h.ref.keep k (by simp) (by simp)⟩

/-- A step of the laws' scripts, as a value. -/
structure OpV where
  kind : Int
  a : Int
  b : Int
  n : Int
  m : Int
  pg : Value
  sp : Value
  s0 : Int
  s1 : Int
  s2 : Int
  s3 : Int
def OpV.cells (o : OpV) : Array Value := #[.int .i64 o.kind, .int .i64 o.a, .int .i64 o.b, .int .i64 o.n, .int .i64 o.m, o.pg, o.sp, .int .i64 o.s0, .int .i64 o.s1, .int .i64 o.s2, .int .i64 o.s3]

set_option maxHeartbeats 2000000 in
set_option maxRecDepth 100000 in
theorem looks_ok (h : Twin w b wb cap rb mb rc S on) (kind a b' n m s0 s1 s2 s3 : Int) (pg sp : Value) :
    Calls Try.prog 60 #[.pointer (some ⟨b, 0, none⟩), .pointer (some ⟨rb, 0, none⟩), .agg #[.int .i64 kind, .int .i64 a, .int .i64 b', .int .i64 n, .int .i64 m, pg, sp, .int .i64 s0, .int .i64 s1, .int .i64 s2, .int .i64 s3]] w fun e w' => e = .returned (.bool true) ∧ Kp [] w w' := by
  have o1 := h.pool.ok.p2
  have hcl := coOf_length (on := on) h.pool.ok n
  have sneq := span_eql
  have H := hide h
  clear h
  by_cases t14 : kind = 14
  · have k14 : (kind == 14) = true := by simpa using t14
    have T14 := hide t14
    clear t14
    go_enter Try.func60, Try.ntmps60
    go_wp2_with fail
    have hka : Kp [] w (w.alloc (.cells #[.int .i64 kind, .int .i64 a, .int .i64 b', .int .i64 n, .int .i64 m, pg, sp, .int .i64 s0, .int .i64 s1, .int .i64 s2, .int .i64 s3] 85)) := (Kp.refl _ _).alloc _
    have hz3 : (w.alloc (.cells #[.int .i64 kind, .int .i64 a, .int .i64 b', .int .i64 n, .int .i64 m, pg, sp, .int .i64 s0, .int .i64 s1, .int .i64 s2, .int .i64 s3] 85)).cell? ⟨w.heap.size, 3, none⟩ = some (.int .i64 n) := by rw [blk_cell (blk_new _ _)]; rfl
    generalize w.alloc (.cells #[.int .i64 kind, .int .i64 a, .int .i64 b', .int .i64 n, .int .i64 m, pg, sp, .int .i64 s0, .int .i64 s1, .int .i64 s2, .int .i64 s3] 85) = wa at hka hz3 ⊢
    have ht := H.out.keep0 hka
    have HKA := hide hka
    have HT := hide ht
    clear hka ht
    refine (pFree_any HT.out.pool).mono ?_
    rintro e w1 ⟨rfl, rfl⟩
    go_wp2_with fail
    refine (rFree_any HT.out.ref).mono ?_
    rintro e w1 ⟨rfl, rfl⟩
    go_wp2_with fail
    go_ret
    exact ⟨by simp, HKA.out⟩
  have k14 : (kind == 14) = false := by simpa using t14
  clear t14
  by_cases t15 : kind = 15
  · have k15 : (kind == 15) = true := by simpa using t15
    have T15 := hide t15
    clear t15
    go_enter Try.func60, Try.ntmps60
    go_wp2_with fail
    have hka : Kp [] w (w.alloc (.cells #[.int .i64 kind, .int .i64 a, .int .i64 b', .int .i64 n, .int .i64 m, pg, sp, .int .i64 s0, .int .i64 s1, .int .i64 s2, .int .i64 s3] 85)) := (Kp.refl _ _).alloc _
    have hz3 : (w.alloc (.cells #[.int .i64 kind, .int .i64 a, .int .i64 b', .int .i64 n, .int .i64 m, pg, sp, .int .i64 s0, .int .i64 s1, .int .i64 s2, .int .i64 s3] 85)).cell? ⟨w.heap.size, 3, none⟩ = some (.int .i64 n) := by rw [blk_cell (blk_new _ _)]; rfl
    generalize w.alloc (.cells #[.int .i64 kind, .int .i64 a, .int .i64 b', .int .i64 n, .int .i64 m, pg, sp, .int .i64 s0, .int .i64 s1, .int .i64 s2, .int .i64 s3] 85) = wa at hka hz3 ⊢
    have ht := H.out.keep0 hka
    have HKA := hide hka
    have HT := hide ht
    clear hka ht
    obtain ⟨q, hq⟩ : ∃ q, (decide (0 ≤ n) && on n.toNat) = q := ⟨_, rfl⟩
    have hph : ∀ z, Calls Try.prog 47 #[.pointer (some ⟨b, 0, none⟩), .int .i64 n] (wa.drewN z) fun e w' => e = .returned (.bool q) ∧ ∃ k, w' = (wa.drewN z).drewN k := fun z => by have h1 := pHas_any (HT.out.pool.drewN z) n; rw [hq] at h1; exact h1
    have hrh : ∀ z, Calls Try.prog 69 #[.pointer (some ⟨rb, 0, none⟩), .int .i64 n] (wa.drewN z) fun e w' => e = .returned (.bool q) ∧ ∃ k, w' = (wa.drewN z).drewN k := fun z => by
      refine (rHas_any (HT.out.ref.keep ((Kp.refl [] _).drewN z) (by simp) (by simp)) n).mono ?_
      rw [hq]
      rintro e w1 ⟨rfl, rfl⟩
      exact ⟨rfl, 0, rfl⟩
    have HPH := hide hph
    have HRH := hide hrh
    clear hph hrh
    clear hq
    go_quiet ((first | (go_at_call 47; refine Calls.quiet_of (HPH.out _)) | (go_at_call 69; refine Calls.quiet_of (HRH.out _))))
    go_wp2_with fail
    go_ret
    exact ⟨by simp, HKA.out.drewN _⟩
  have k15 : (kind == 15) = false := by simpa using t15
  clear t15
  by_cases t16 : kind = 16
  · have k16 : (kind == 16) = true := by simpa using t16
    have T16 := hide t16
    clear t16
    go_enter Try.func60, Try.ntmps60
    go_wp2_with fail
    have hka : Kp [] w (w.alloc (.cells #[.int .i64 kind, .int .i64 a, .int .i64 b', .int .i64 n, .int .i64 m, pg, sp, .int .i64 s0, .int .i64 s1, .int .i64 s2, .int .i64 s3] 85)) := (Kp.refl _ _).alloc _
    have hz3 : (w.alloc (.cells #[.int .i64 kind, .int .i64 a, .int .i64 b', .int .i64 n, .int .i64 m, pg, sp, .int .i64 s0, .int .i64 s1, .int .i64 s2, .int .i64 s3] 85)).cell? ⟨w.heap.size, 3, none⟩ = some (.int .i64 n) := by rw [blk_cell (blk_new _ _)]; rfl
    generalize w.alloc (.cells #[.int .i64 kind, .int .i64 a, .int .i64 b', .int .i64 n, .int .i64 m, pg, sp, .int .i64 s0, .int .i64 s1, .int .i64 s2, .int .i64 s3] 85) = wa at hka hz3 ⊢
    have ht := H.out.keep0 hka
    have HKA := hide hka
    have HT := hide ht
    clear hka ht
    go_region_held3 (fun w' => w'.cell? ⟨w.heap.size, 3, none⟩ = some (.int .i64 n))
      (first | exact z2 | exact z1 | exact hz3)
      (first
        | (go_at_call 16; refine (pArea_all (HT.out.keep0 (by first | exact ((Kp.refl [] wa).drew.trans' hk2) | exact (Kp.refl [] wa).drew)).pool n).mono ?_; rintro e w1 ⟨rfl, hk1⟩; have z1 := hk1.cell (a := ⟨w.heap.size, 3, none⟩) (by first | exact z2 | exact hz3) (by simp))
        | (go_at_call 66; refine (rArea_all (HT.out.keep0 (by first | exact ((Kp.refl [] wa).drew.trans' hk1) | exact (Kp.refl [] wa).drew)).ref n).mono ?_; rintro e w2 ⟨rfl, hk2⟩; have z2 := hk2.cell (a := ⟨w.heap.size, 3, none⟩) (by first | exact z1 | exact hz3) (by simp)))
    all_goals
      go_wp2_with fail
      go_ret
      exact ⟨by simp, HKA.out.trans' (by first | exact (((Kp.refl [] wa).drew.trans' hk1).trans' hk2) | exact (((Kp.refl [] wa).drew.trans' hk2).trans' hk1))⟩
  have k16 : (kind == 16) = false := by simpa using t16
  clear t16
  by_cases t17 : kind = 17
  · have k17 : (kind == 17) = true := by simpa using t17
    have T17 := hide t17
    clear t17
    go_enter Try.func60, Try.ntmps60
    go_wp2_with fail
    have hka : Kp [] w (w.alloc (.cells #[.int .i64 kind, .int .i64 a, .int .i64 b', .int .i64 n, .int .i64 m, pg, sp, .int .i64 s0, .int .i64 s1, .int .i64 s2, .int .i64 s3] 85)) := (Kp.refl _ _).alloc _
    have hz3 : (w.alloc (.cells #[.int .i64 kind, .int .i64 a, .int .i64 b', .int .i64 n, .int .i64 m, pg, sp, .int .i64 s0, .int .i64 s1, .int .i64 s2, .int .i64 s3] 85)).cell? ⟨w.heap.size, 3, none⟩ = some (.int .i64 n) := by rw [blk_cell (blk_new _ _)]; rfl
    generalize w.alloc (.cells #[.int .i64 kind, .int .i64 a, .int .i64 b', .int .i64 n, .int .i64 m, pg, sp, .int .i64 s0, .int .i64 s1, .int .i64 s2, .int .i64 s3] 85) = wa at hka hz3 ⊢
    have ht := H.out.keep0 hka
    have HKA := hide hka
    have HT := hide ht
    clear hka ht
    go_region_held3 (fun w' => w'.cell? ⟨w.heap.size, 3, none⟩ = some (.int .i64 n))
      (first | exact z2 | exact z1 | exact hz3)
      (first
        | (go_at_call 17; refine (pCore_all (HT.out.keep0 (by first | exact ((Kp.refl [] wa).drew.trans' hk2) | exact (Kp.refl [] wa).drew)).pool n).mono ?_; rintro e w1 ⟨v1, rfl, ho1, hk1⟩; have z1 := hk1.cell (a := ⟨w.heap.size, 3, none⟩) (by first | exact z2 | exact hz3) (by simp))
        | (go_at_call 70; refine (rCore_all (HT.out.keep0 (by first | exact ((Kp.refl [] wa).drew.trans' hk1) | exact (Kp.refl [] wa).drew)).ref n).mono ?_; rintro e w2 ⟨v2, rfl, ho2, hk2⟩; have z2 := hk2.cell (a := ⟨w.heap.size, 3, none⟩) (by first | exact z1 | exact hz3) (by simp))
        | (go_at_call 26; refine (sameSpans_eq (l := coOf S on n) (by first | exact ho1.rd | exact (ho1.keep hk2 (by simp)).rd) (by first | exact ho2.rd | exact (ho2.keep hk1 (by simp)).rd) (by omega)).mono ?_; rintro e w3 ⟨rfl, k3, rfl⟩))
    all_goals
      go_wp2_with fail
      go_ret
      exact ⟨rfl, HKA.out.trans' (by first | exact (((Kp.refl [] wa).drew.trans' hk1).trans' hk2).drewN _ | exact (((Kp.refl [] wa).drew.trans' hk2).trans' hk1).drewN _)⟩
  have k17 : (kind == 17) = false := by simpa using t17
  clear t17
  have hsl : (runs on S.data S.pages).length ≤ 1024 := by have := runsTo_length on S.data (S.pages - S.data); show (runsTo _ _ _).length ≤ 1024; omega
  go_enter Try.func60, Try.ntmps60
  go_wp2_with fail
  have hka : Kp [] w (w.alloc (.cells #[.int .i64 kind, .int .i64 a, .int .i64 b', .int .i64 n, .int .i64 m, pg, sp, .int .i64 s0, .int .i64 s1, .int .i64 s2, .int .i64 s3] 85)) := (Kp.refl _ _).alloc _
  have hz3 : (w.alloc (.cells #[.int .i64 kind, .int .i64 a, .int .i64 b', .int .i64 n, .int .i64 m, pg, sp, .int .i64 s0, .int .i64 s1, .int .i64 s2, .int .i64 s3] 85)).cell? ⟨w.heap.size, 3, none⟩ = some (.int .i64 n) := by rw [blk_cell (blk_new _ _)]; rfl
  generalize w.alloc (.cells #[.int .i64 kind, .int .i64 a, .int .i64 b', .int .i64 n, .int .i64 m, pg, sp, .int .i64 s0, .int .i64 s1, .int .i64 s2, .int .i64 s3] 85) = wa at hka hz3 ⊢
  have ht := H.out.keep0 hka
  have HKA := hide hka
  have HT := hide ht
  clear hka ht
  refine (pSpans_any HT.out.pool).mono ?_
  rintro e w1 ⟨v1, rfl, ho1, hk1⟩
  have hr1 := HT.out.ref.keep hk1 (by simp) (by simp)
  have HO1 := hide ho1
  have HK1 := hide hk1
  have HR1 := hide hr1
  clear ho1 hk1 hr1
  go_wp2_with fail
  refine (rSpans_any HR1.out).mono ?_
  rintro e w2 ⟨v2, rfl, ho2, hk2⟩
  have ho12 := HO1.out.keep hk2 (by simp)
  have HO2 := hide ho2
  have HK2 := hide hk2
  have HO12 := hide ho12
  clear ho2 hk2 ho12
  go_wp2_with fail
  refine (sameSpans_eq HO12.out.rd HO2.out.rd (by omega)).mono ?_
  rintro e w3 ⟨rfl, k3, rfl⟩
  go_wp2_with fail
  go_ret
  exact ⟨rfl, (HKA.out.trans' (HK1.out.trans' HK2.out)).drewN _⟩
end
end Go.Proofs.Ytoghdhjeopcjkaa
