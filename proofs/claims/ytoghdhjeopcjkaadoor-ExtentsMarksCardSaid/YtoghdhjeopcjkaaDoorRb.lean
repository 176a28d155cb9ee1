
/- The reference's bitmap: what it holds, and its walks. Conditions: it lies in memory (RbAt). -/
import Derived.Test.YtoghdhjeopcjkaaDoorRef3
import Derived.Test.YtoghdhjeopcjkaaDoorMergeP
namespace Go.Proofs.YtoghdhjeopcjkaaDoor
open Go.RowKit Go.Deep

theorem bls_congr {f g : Nat → Bool} {n : Nat} (h : ∀ i, i < n → f i = g i) : bls f n = bls g n := by
  unfold bls
  apply List.map_congr_left
  intro i hi
  rw [h i (by simpa using hi)]
theorem bls_put (f : Nat → Bool) (n i : Nat) (q : Bool) : (bls f n).set i (.bool q) = bls (put f i q) n := by
  apply List.ext_getElem?
  intro j
  by_cases hj : j < n
  · rw [bls_get _ _ _ hj]
    by_cases e : j = i
    · subst e
      rw [List.getElem?_set_self (by rw [bls_length]; exact hj), put_same]
    · rw [List.getElem?_set_ne (by omega), bls_get _ _ _ hj, put_other _ e]
  · rw [List.getElem?_eq_none (by simp [bls_length]; omega), List.getElem?_eq_none (by simp [bls_length]; omega)]
/-- The reference's bitmap in block rb; its marks are the slice of a. -/
structure RbAt (w : World) (base rb : Nat) (a : Option Addr) (cap n : Nat) (on : Nat → Bool) : Prop where
  hd : w.heap[rb]? = some (.cells #[.slice a n cap] 85 (0, 0))
  row : OwnB w base (.slice a n cap) n on
  ne : ∀ g, (Value.slice a n cap).ownBlock = some g → g ≠ rb
  nle : n ≤ 1024
  off : ∀ i, n ≤ i → on i = false
section
variable {w w' : World} {base rb cap n : Nat} {a : Option Addr} {on : Nat → Bool}
theorem RbAt.keep {L : List Nat} (h : RbAt w base rb a cap n on) (k : Kp L w w') (h1 : rb ∉ L) (h2 : ∀ g, (Value.slice a n cap).ownBlock = some g → g ∉ L) : RbAt w' base rb a cap n on :=
  ⟨k.blk h.hd h1, h.row.keep k h2, h.ne, h.nle, h.off⟩
theorem RbAt.lt (h : RbAt w base rb a cap n on) : rb < w.heap.size := blk_lt h.hd
theorem RbAt.c (h : RbAt w base rb a cap n on) : w.cell? ⟨rb, 0, none⟩ = some (.slice a n cap) := by rw [blk_cell h.hd]; rfl
theorem RbAt.low {base' : Nat} (h : RbAt w base rb a cap n on) (hb : base' ≤ base) : RbAt w base' rb a cap n on := ⟨h.hd, ownsRow_lower h.row hb, h.ne, h.nle, h.off⟩
theorem RbAt.at_ (h : RbAt w base rb a cap n on) {i : Nat} (hi : i < n) : ∃ g, a = some ⟨g, 0, none⟩ ∧ (∀ j, j < n → w.cell? ⟨g, j, none⟩ = some (.bool (on j))) ∧ (∀ j, w.frozen? ⟨g, j, none⟩ = false) ∧ g ≠ rb ∧ base ≤ g ∧ g < w.heap.size := by
  have h' := h.row
  rcases h.row.2 with ⟨h1, h2⟩ | ⟨g, cap', cur, h1, h2, h3, h4, h5, _⟩
  · omega
  · simp only [Value.slice.injEq] at h1
    obtain ⟨rfl, _, rfl⟩ := h1
    refine ⟨g, rfl, fun j hj => ?_, fun j => blk_free h3 j, h.ne g rfl, h2, blk_lt h3⟩
    rw [World.ownsRow.cellAt h' _ (by omega)]
    exact bls_get on n j hj
theorem RbAt.turn (h : RbAt w base rb a cap n on) {g i : Nat} (q : Bool) (hg : a = some ⟨g, 0, none⟩) (hi : i < n) : RbAt (w.setCell ⟨g, i, none⟩ (.bool q)) base rb a cap n (put on i q) := by
  subst hg
  refine ⟨blk_set_ne h.hd (Ne.symm (h.ne g rfl)) _, ?_, h.ne, h.nle, fun j hj => by rw [put_other _ (by omega)]; exact h.off j hj⟩
  unfold OwnB
  rw [← bls_put]
  exact (World.ownsRow.stored h.row _ _).1
theorem RbAt.congr {on' : Nat → Bool} (h : RbAt w base rb a cap n on) (he : on = on') : RbAt w base rb a cap n on' := he ▸ h

theorem rbHas_any (h : RbAt w base rb a cap n on) (i : Int) :
    Calls Tryd.prog 23 #[.pointer (some ⟨rb, 0, none⟩), .int .i64 i] w fun e w' => e = .returned (.bool (decide (0 ≤ i) && on i.toNat)) ∧ w = w' := by
  have c0 := h.c
  have hn := h.nle
  by_cases h1 : 0 ≤ i
  · obtain ⟨i, rfl⟩ := Int.eq_ofNat_of_zero_le h1
    have hd : decide ((0 : Int) ≤ (i : Int)) = true := by simp
    by_cases h2 : i < n
    · obtain ⟨g, rfl, hc, _⟩ := h.at_ h2
      have hci := hc i h2
      have i2 : (i : Int) < (n : Int) := by omega
      obtain ⟨q, hq⟩ : ∃ q, on i = q := ⟨_, rfl⟩
      rw [hq] at hci
      have e : (decide ((0 : Int) ≤ (i : Int)) && on (i : Int).toNat) = q := by simp [hq]
      rw [e]
      clear h hc hq e
      go_enter Tryd.func23, Tryd.ntmps23
      go_wp2
      go_ret
      exact ⟨by simp, rfl⟩
    · have e : (decide ((0 : Int) ≤ (i : Int)) && on (i : Int).toNat) = false := by simp [h.off i (by omega)]
      rw [e]
      have hd2 : decide ((i : Int) < (n : Int)) = false := by simp; omega
      clear h e
      go_enter Tryd.func23, Tryd.ntmps23
      go_wp2
      go_ret
      exact ⟨by simp, rfl⟩
  · have hd : decide (0 ≤ i) = false := by simpa using h1
    rw [hd, Bool.false_and]
    clear h
    go_enter Tryd.func23, Tryd.ntmps23
    go_wp2
    go_ret
    exact ⟨by simp, rfl⟩

theorem rbSet_no (h : RbAt w base rb a cap n on) (i : Int) (hi : i < 0 ∨ (n : Int) ≤ i ∨ on i.toNat = true) :
    Calls Tryd.prog 22 #[.pointer (some ⟨rb, 0, none⟩), .int .i64 i] w fun e w' => e = .returned (.bool false) ∧ w = w' := by
  have c0 := h.c
  by_cases d1 : i < 0
  · clear h
    have e1 : decide (i < 0) = true := by simpa using d1
    go_enter Tryd.func22, Tryd.ntmps22
    go_wp2
    go_ret
    exact ⟨rfl, rfl⟩
  · have e1 : decide (i < 0) = false := by simpa using d1
    by_cases d2 : (n : Int) ≤ i
    · clear h
      have e2 : decide ((n : Int) ≤ i) = true := by simpa using d2
      go_enter Tryd.func22, Tryd.ntmps22
      go_wp2
      go_ret
      exact ⟨rfl, rfl⟩
    · have e2 : decide ((n : Int) ≤ i) = false := by simpa using d2
      obtain ⟨i, rfl⟩ := Int.eq_ofNat_of_zero_le (show 0 ≤ i by omega)
      obtain ⟨g, rfl, hc, _⟩ := h.at_ (i := i) (by omega)
      have hci := hc i (by omega)
      have ho : on i = true := by
        rcases hi with hi | hi | hi
        · omega
        · omega
        · simpa using hi
      rw [ho] at hci
      have e2' : decide (n ≤ i) = false := by simp; omega
      have i2 : (i : Int) < (n : Int) := by omega
      clear h hc hi ho
      go_enter Tryd.func22, Tryd.ntmps22
      go_wp2
      go_ret
      exact ⟨rfl, rfl⟩
theorem rbSet_on (h : RbAt w base rb a cap n on) (i : Nat) (hi : i < n) (ho : on i = false) :
    Calls Tryd.prog 22 #[.pointer (some ⟨rb, 0, none⟩), .int .i64 i] w fun e w' => e = .returned (.bool true) ∧ ∃ g, a = some ⟨g, 0, none⟩ ∧ RbAt w' base rb a cap n (put on i true) ∧ Kp [g] w w' := by
  have c0 := h.c
  obtain ⟨g, rfl, hc, hf, hne, _⟩ := h.at_ hi
  have hci := hc i hi
  have hfi := hf i
  rw [ho] at hci
  have e1 : decide ((i : Int) < 0) = false := by simp
  have e2 : decide ((n : Int) ≤ (i : Int)) = false := by simp; omega
  have e2' : decide (n ≤ i) = false := by simp; omega
  have i2 : (i : Int) < (n : Int) := by omega
  have hn := h.nle
  have H := hide h
  clear h
  clear hc hf ho
  go_enter Tryd.func22, Tryd.ntmps22
  go_wp2
  go_ret
  exact ⟨rfl, g, rfl, H.out.turn true rfl hi, (Kp.refl _ _).set (by simp) _⟩

set_option maxHeartbeats 1000000 in
theorem rbCount_any (h : RbAt w base rb a cap n on) :
    Calls Tryd.prog 24 #[.pointer (some ⟨rb, 0, none⟩)] w fun e w' => e = .returned (.int .i64 (cnt on n)) ∧ w = w' := by
  have c0 := h.c
  have o1 := h.nle
  have hat := fun i (hi : i < n) => h.at_ hi
  have HAT := hide hat
  clear hat
  clear h
  go_enter Tryd.func24, Tryd.ntmps24
  go_wp2
  go_loop [3, 4] (fun c i => ∃ k : Nat, k ≤ n ∧ i = .int .i64 k ∧ c = .int .i64 (cnt on k)) (fun _ i => n - (intOf i).toNat)
  case atStart => exact ⟨0, by omega, rfl, rfl⟩
  case round =>
    obtain ⟨k, hk, rfl, rfl⟩ := hrel
    have hcl := cnt_le on k
    by_cases hlt : k < n
    · obtain ⟨g, rfl, hm, _⟩ := HAT.out k hlt
      replace hm := hm k hlt
      have hst : cnt on (k + 1) = cnt on k + if on k then 1 else 0 := rfl
      have i1 : (0 : Int) ≤ (k : Int) := by omega
      have i2 : (k : Int) < (n : Int) := by omega
      cases ho : on k with
      | true =>
        rw [ho] at hm hst
        simp only [if_true] at hst
        have HST := hide hst
        have HO := hide ho
        clear hst ho
        go_wp2
        go_round
        case rel => exact ⟨k + 1, by omega, by go_num, by rw [HST.out]; go_num⟩
        case measure => simp [intOf]; omega
      | false =>
        rw [ho] at hm hst
        simp only [Bool.false_eq_true, if_false, Nat.add_zero] at hst
        have HST := hide hst
        have HO := hide ho
        clear hst ho
        go_wp2
        go_round
        case rel => exact ⟨k + 1, by omega, by go_num, by rw [HST.out]⟩
        case measure => simp [intOf]; omega
    · obtain rfl : k = n := by omega
      go_wp2
      go_ret
      exact ⟨rfl, rfl⟩
end
end Go.Proofs.YtoghdhjeopcjkaaDoor
