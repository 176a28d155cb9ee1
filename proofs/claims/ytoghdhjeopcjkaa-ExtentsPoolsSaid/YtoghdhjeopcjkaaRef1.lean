/- The walks of the reference's pool: Free, in, Has, border, Area. Conditions: the pool lies in memory (RefAt). -/
import Derived.Test.YtoghdhjeopcjkaaOff
import Derived.Test.YtoghdhjeopcjkaaFreeP
namespace Go.Proofs.Ytoghdhjeopcjkaa
open Go.RowKit Go.Deep

/-- The reference's pool in block rb, its marks in block mb. -/
structure RefAt (w : World) (rb mb cap : Nat) (S : Sh) (on : Nat → Bool) : Prop where
  hd : w.heap[rb]? = some (.cells #[.int .i64 S.pages, .int .i64 S.inodes, .int .i64 S.cores, .int .i64 S.data, .slice (some ⟨mb, 0, none⟩) S.pages cap] 115 (0, 0))
  row : ∃ c : Array Value, w.heap[mb]? = some (.cells c 4 (0, 0)) ∧ ∀ i, i < S.pages → c[i]? = some (.bool (on i))
  ne : rb ≠ mb
  ok : S.Ok
  low : ∀ i, i < S.data → on i = false
  off : ∀ i, S.pages ≤ i → on i = false
section
variable {w w' : World} {rb mb cap : Nat} {S : Sh} {on : Nat → Bool}
theorem RefAt.keep {L : List Nat} (h : RefAt w rb mb cap S on) (k : Kp L w w') (h1 : rb ∉ L) (h2 : mb ∉ L) : RefAt w' rb mb cap S on :=
  ⟨k.blk h.hd h1, by obtain ⟨c, h3, h4⟩ := h.row; exact ⟨c, k.blk h3 h2, h4⟩, h.ne, h.ok, h.low, h.off⟩
theorem RefAt.lt (h : RefAt w rb mb cap S on) : rb < w.heap.size := blk_lt h.hd
theorem RefAt.mlt (h : RefAt w rb mb cap S on) : mb < w.heap.size := by obtain ⟨c, h3, _⟩ := h.row; exact blk_lt h3
theorem RefAt.cells (h : RefAt w rb mb cap S on) : w.cell? ⟨rb, 0, none⟩ = some (.int .i64 S.pages) ∧ w.cell? ⟨rb, 1, none⟩ = some (.int .i64 S.inodes) ∧ w.cell? ⟨rb, 2, none⟩ = some (.int .i64 S.cores) ∧ w.cell? ⟨rb, 3, none⟩ = some (.int .i64 S.data) ∧
    w.cell? ⟨rb, 4, none⟩ = some (.slice (some ⟨mb, 0, none⟩) S.pages cap) := by simp [World.cell?, h.hd]
theorem RefAt.mark (h : RefAt w rb mb cap S on) {i : Nat} (hi : i < S.pages) : w.cell? ⟨mb, i, none⟩ = some (.bool (on i)) := by
  obtain ⟨c, h3, h4⟩ := h.row
  rw [blk_cell h3]; exact h4 i hi
theorem RefAt.mf (h : RefAt w rb mb cap S on) (i : Nat) : w.frozen? ⟨mb, i, none⟩ = false := by obtain ⟨c, h3, _⟩ := h.row; exact blk_free h3 i
theorem RefAt.turn (h : RefAt w rb mb cap S on) {i : Nat} (v : Bool) (h1 : S.data ≤ i) (h2 : i < S.pages) : RefAt (w.setCell ⟨mb, i, none⟩ (.bool v)) rb mb cap S (put on i v) := by
  obtain ⟨c, h3, h4⟩ := h.row
  refine ⟨blk_set_ne h.hd h.ne _, ⟨_, blk_set h3 _, fun j hj => ?_⟩, h.ne, h.ok, fun j hj => by rw [put_other _ (by omega)]; exact h.low j hj, fun j hj => by rw [put_other _ (by omega)]; exact h.off j hj⟩
  by_cases e : j = i
  · subst e
    have hlt := (Array.getElem?_eq_some_iff.1 (h4 j hj)).1
    simp [hlt, put]
  · rw [Array.getElem?_setIfInBounds, if_neg (by omega), put_other _ e]; exact h4 j hj

set_option maxHeartbeats 1000000 in
theorem rFree_any (h : RefAt w rb mb cap S on) :
    Calls Try.prog 65 #[.pointer (some ⟨rb, 0, none⟩)] w fun e w' => e = .returned (.int .i64 (cnt on S.pages)) ∧ w = w' := by
  obtain ⟨c0, c1, c2, c3, c4⟩ := h.cells
  have o1 := h.ok.p2
  have hmk := fun i (hi : i < S.pages) => h.mark hi
  have HMK := hide hmk
  clear hmk
  clear h c0 c1 c2 c3
  go_enter Try.func65, Try.ntmps65
  go_wp2
  go_loop [3, 4] (fun n i => ∃ k : Nat, k ≤ S.pages ∧ i = .int .i64 k ∧ n = .int .i64 (cnt on k)) (fun _ i => S.pages - (intOf i).toNat)
  case atStart => exact ⟨0, by omega, rfl, rfl⟩
  case round =>
    obtain ⟨k, hk, rfl, rfl⟩ := hrel
    have hcl := cnt_le on k
    by_cases hlt : k < S.pages
    · have hm := HMK.out k hlt
      have hst : cnt on (k + 1) = cnt on k + if on k then 1 else 0 := rfl
      have i1 : (0 : Int) ≤ (k : Int) := by omega
      have i2 : (k : Int) < (S.pages : Int) := by omega
      cases ho : on k with
      | true =>
        rw [ho] at hm hst
        simp only [if_true] at hst
        have HST := hide hst
        have HO := hide ho
        clear hst ho
        go_wp2
        go_round
        case rel => exact ⟨k + 1, by omega, by go_num, by rw [HST.out]; go_num⟩
        case measure => simp [intOf]; omega
      | false =>
        rw [ho] at hm hst
        simp only [Bool.false_eq_true, if_false, Nat.add_zero] at hst
        have HST := hide hst
        have HO := hide ho
        clear hst ho
        go_wp2
        go_round
        case rel => exact ⟨k + 1, by omega, by go_num, by rw [HST.out]⟩
        case measure => simp [intOf]; omega
    · have hkn : k = S.pages := by omega
      subst hkn
      go_wp2
      go_ret
      exact ⟨rfl, rfl⟩

theorem rin_any (h : RefAt w rb mb cap S on) (i : Int) :
    Calls Try.prog 68 #[.pointer (some ⟨rb, 0, none⟩), .int .i64 i] w fun e w' => e = .returned (.bool (decide ((S.data : Int) ≤ i) && decide (i < S.pages))) ∧ w = w' := by
  obtain ⟨c0, c1, c2, c3, c4⟩ := h.cells
  clear h c1 c2 c4
  by_cases h1 : (S.data : Int) ≤ i
  · have hd : decide ((S.data : Int) ≤ i) = true := by simpa using h1
    go_enter Try.func68, Try.ntmps68
    go_wp2
    go_ret
    exact ⟨by simp [hd], rfl⟩
  · have hd : decide ((S.data : Int) ≤ i) = false := by simpa using h1
    go_enter Try.func68, Try.ntmps68
    go_wp2
    go_ret
    exact ⟨by simp, rfl⟩
theorem rHas_any (h : RefAt w rb mb cap S on) (i : Int) :
    Calls Try.prog 69 #[.pointer (some ⟨rb, 0, none⟩), .int .i64 i] w fun e w' => e = .returned (.bool (decide (0 ≤ i) && on i.toNat)) ∧ w = w' := by
  obtain ⟨c0, c1, c2, c3, c4⟩ := h.cells
  have o1 := h.ok.p2
  by_cases hp : (S.data : Int) ≤ i ∧ i < S.pages
  · obtain ⟨h1, h2⟩ := hp
    obtain ⟨i, rfl⟩ := Int.eq_ofNat_of_zero_le (show 0 ≤ i by omega)
    have hm := h.mark (i := i) (by omega)
    have hb : (decide ((S.data : Int) ≤ (i : Int)) && decide ((i : Int) < (S.pages : Int))) = true := by simp; omega
    have hr : (decide ((0 : Int) ≤ (i : Int)) && on ((i : Int)).toNat) = on i := by simp
    rw [hr]
    have i1 : (0 : Int) ≤ (i : Int) := by omega
    have H := hide h
    have HB := hide hb
    clear h hb
    clear hr
    go_enter Try.func69, Try.ntmps69
    go_wp2_with (go_at_call 68; refine (rin_any H.out _).mono ?_; rw [HB.out]; rintro e w' ⟨rfl, rfl⟩)
    go_ret
    exact ⟨rfl, rfl⟩
  · have hb : (decide ((S.data : Int) ≤ i) && decide (i < (S.pages : Int))) = false := by
      rw [Bool.and_eq_false_iff, decide_eq_false_iff_not, decide_eq_false_iff_not]; omega
    have hr : (decide ((0 : Int) ≤ i) && on i.toNat) = false := by
      by_cases h0 : 0 ≤ i
      · have : on i.toNat = false := by
          by_cases h1 : (S.data : Int) ≤ i
          · exact h.off _ (by omega)
          · exact h.low _ (by omega)
        rw [this, Bool.and_false]
      · simp [h0]
    rw [hr]
    have H := hide h
    have HB := hide hb
    clear h hb
    clear hr hp
    go_enter Try.func69, Try.ntmps69
    go_wp2_with (go_at_call 68; refine (rin_any H.out _).mono ?_; rw [HB.out]; rintro e w' ⟨rfl, rfl⟩)
    go_ret
    exact ⟨rfl, rfl⟩
theorem rborder_any (h : RefAt w rb mb cap S on) (c : Nat) (hc : c ≤ S.cores) :
    Calls Try.prog 73 #[.pointer (some ⟨rb, 0, none⟩), .int .i64 c] w fun e w' => e = .returned (.int .i64 (S.lo c)) ∧ ∃ k, w' = w.drewN k := by
  obtain ⟨c0, c1, c2, c3, c4⟩ := h.cells
  have o1 := h.ok.p2; have o2 := h.ok.c1; have o3 := h.ok.c2; have o4 := h.ok.d2
  have hlb := Sh.lo_bd h.ok c hc
  obtain ⟨D, hD⟩ : ∃ D, S.pages - S.data = D := ⟨_, rfl⟩
  have e1 : IntKind.i64.wrap ((S.pages : Int) - (S.data : Int)) = (D : Int) := by rw [IntKind.wrap_i64]; omega
  obtain ⟨m, hm⟩ : ∃ m, c * D = m := ⟨_, rfl⟩
  have hmb : m ≤ 8 * 1024 := by rw [← hm]; exact Nat.mul_le_mul (by omega) (by omega)
  have h9 : (c : Int) * (D : Int) = (m : Int) := by rw [← hm]; exact (Int.natCast_mul c D).symm
  have e2 : IntKind.i64.wrap ((c : Int) * (D : Int)) = (m : Int) := by rw [h9, IntKind.wrap_i64]; omega
  clear h9
  obtain ⟨q, hq⟩ : ∃ q, m / S.cores = q := ⟨_, rfl⟩
  have e3 : (m : Int).tdiv (S.cores : Int) = (q : Int) := by rw [← hq]; exact (Int.ofNat_tdiv m S.cores).symm
  have e3' : (m : Int) / (S.cores : Int) = (q : Int) := by rw [← hq]; exact (Int.natCast_ediv m S.cores).symm
  have hqb : q ≤ 8192 := by have := Nat.div_le_self m S.cores; omega
  have hl : S.lo c = S.data + q := by unfold Sh.lo; rw [hD, hm, hq]
  have e4 : IntKind.i64.wrap ((S.data : Int) + (q : Int)) = (S.lo c : Int) := by rw [IntKind.wrap_i64, hl]; omega
  have H := hide h
  have HL := hide hl
  have HM := hide hm
  have HQ := hide hq
  have HD := hide hD
  clear h hl hm hq hD
  clear c1 c4
  go_enter Try.func73, Try.ntmps73
  go_wp2
  go_quiet (fail)
  go_wp2
  go_ret
  exact ⟨by first | rfl | simp, _, rfl⟩
theorem rArea_in (h : RefAt w rb mb cap S on) (c : Int) (c' F C : Nat) (hcc : c = c') (hc : c' < S.cores) (hF : S.lo c' = F) (hC : S.lo (c' + 1) = F + C) :
    Calls Try.prog 66 #[.pointer (some ⟨rb, 0, none⟩), .int .i64 c] w fun e w' => e = .returned (.agg #[.int .i64 F, .int .i64 C]) ∧ Kp [] w w' := by
  subst hcc
  obtain ⟨c0, c1, c2, c3, c4⟩ := h.cells
  have o1 := h.ok.p2; have o2 := h.ok.c1; have o3 := h.ok.c2
  have hlb := Sh.lo_bd h.ok (c' + 1) (by omega)
  rw [hC] at hlb
  have hrl := h.lt
  have hrn : rb ≠ w.heap.size := by omega
  have d1 : decide ((c' : Int) < 0) = false := by simp
  have d2 : decide ((S.cores : Int) ≤ (c' : Int)) = false := by simp; omega
  have d2' : decide (S.cores ≤ c') = false := by simp; omega
  have H := hide h
  have HF := hide hF
  have HC := hide hC
  clear h hF hC
  clear c0 c1 c3 c4
  go_enter Try.func66, Try.ntmps66
  go_wp2_with fail
  refine (rborder_any (H.out.keep ((Kp.refl [] _).alloc _) (by simp) (by simp)) c' (by omega)).mono ?_
  rw [HF.out]
  rintro e w1 ⟨rfl, k1, rfl⟩
  go_wp2_with fail
  have hb2 := rborder_any (H.out.keep (((Kp.refl [] w).alloc (.cells #[.int .i64 0, .int .i64 0] 31)).drewN k1) (by simp) (by simp)) (c' + 1) (by omega)
  rw [HC.out] at hb2
  refine hb2.mono ?_
  clear hb2
  rintro e w1 ⟨rfl, k2, rfl⟩
  go_wp2_with fail
  have e5 : (F : Int) + (C : Int) - (F : Int) = (C : Int) := by omega
  refine bodyPost_ret (v := .agg #[.int .i64 F, .int .i64 C]) ?_ rfl ⟨rfl, ?_⟩
  · simp [results, Try.results66, go_sem, e5]
  · repeat (first | exact Kp.refl _ _ | apply Kp.drewN | apply Kp.drew | apply Kp.alloc | (refine Kp.set ?_ (.inr (Nat.le_refl _)) _))
theorem rArea_out (h : RefAt w rb mb cap S on) (c : Int) (hc : c < 0 ∨ (S.cores : Int) ≤ c) :
    Calls Try.prog 66 #[.pointer (some ⟨rb, 0, none⟩), .int .i64 c] w fun e w' => e = .returned (.agg #[.int .i64 0, .int .i64 0]) ∧ Kp [] w w' := by
  obtain ⟨c0, c1, c2, c3, c4⟩ := h.cells
  have hrl := h.lt
  have hrn : rb ≠ w.heap.size := by omega
  clear h c0 c1 c3 c4
  by_cases h0 : c < 0
  · have d1 : decide (c < 0) = true := by simpa using h0
    clear hc
    go_enter Try.func66, Try.ntmps66
    go_wp2_with fail
    refine bodyPost_ret (v := .agg #[.int .i64 0, .int .i64 0]) (by simp [results, Try.results66, go_sem]) rfl ⟨rfl, ?_⟩
    repeat (first | exact Kp.refl _ _ | apply Kp.drewN | apply Kp.drew | apply Kp.alloc | (refine Kp.set ?_ (.inr (Nat.le_refl _)) _))
  · have d1 : decide (c < 0) = false := by simpa using h0
    have h1 : (S.cores : Int) ≤ c := by omega
    have d2 : decide ((S.cores : Int) ≤ c) = true := by simpa using h1
    clear hc
    go_enter Try.func66, Try.ntmps66
    go_wp2_with fail
    refine bodyPost_ret (v := .agg #[.int .i64 0, .int .i64 0]) (by simp [results, Try.results66, go_sem]) rfl ⟨rfl, ?_⟩
    repeat (first | exact Kp.refl _ _ | apply Kp.drewN | apply Kp.drew | apply Kp.alloc | (refine Kp.set ?_ (.inr (Nat.le_refl _)) _))
end
end Go.Proofs.Ytoghdhjeopcjkaa
