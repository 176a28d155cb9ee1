
/- The walk of the laws' Book.listed. Conditions: the book lies in memory (BookAt), the list is read as told. -/
import Derived.Test.YtoghdhjeopcjkaaDoorHelp
import Derived.Test.YtoghdhjeopcjkaaDoorFreeP
namespace Go.Proofs.YtoghdhjeopcjkaaDoor
open Go.RowKit

theorem drop_cons {α : Type} {L : List α} {i : Nat} {x : α} {R : List α} (h : L.drop i = x :: R) : i < L.length ∧ L[i]? = some x ∧ L.drop (i + 1) = R := by
  have h1 : i < L.length := by
    rcases Nat.lt_or_ge i L.length with h1 | h1
    · exact h1
    · rw [List.drop_eq_nil_of_le h1] at h; cases h
  have h2 := congrArg (fun l => l[0]?) h
  have h3 := congrArg List.tail h
  simp at h2 h3
  exact ⟨h1, h2, h3⟩
theorem runsTo_congr {p q : Nat → Bool} {lo k : Nat} (h : ∀ i, lo ≤ i → i < lo + k → p i = q i) : runsTo p lo k = runsTo q lo k := by
  rw [runsTo_spansOf, runsTo_spansOf, pgs_congr h]

section
variable {w : World} {bb hb n many : Nat} {S : Sh} {held : Nat → Bool}
set_option maxHeartbeats 2000000 in
set_option maxRecDepth 100000 in
theorem listed_ok (h : BookAt w bb hb S n held many) (v : Value) (L : Sps) (lo hi : Int) (lo' hi' : Nat) (hlo : lo = lo') (hhi : hi = hi') (hv : RdS w v L) (hL : L = runsTo (fun i => !held i) lo' (hi' - lo')) (h1 : lo' ≤ hi') (h2 : hi' ≤ n) (h3 : n ≤ 1024) :
    Calls Tryd.prog 13 #[.pointer (some ⟨bb, 0, none⟩), v, .int .i64 lo, .int .i64 hi] w fun e w' => e = .returned (.bool true) ∧ ∃ k, w' = w.drewN k := by
  subst hlo; subst hhi
  revert h1 h2 hL
  generalize lo' = lo
  generalize hi' = hi
  intro hL h1 h2
  obtain ⟨a, lc, rfl, hrd⟩ := hv
  obtain ⟨y0, y2, y3, y4, y5⟩ := h.cells
  have hll : L.length ≤ 1024 := by have := runsTo_length (fun i => !held i) lo (hi - lo); rw [← hL] at this; omega
  have hmark := fun i (hi : i < n) => h.mark hi
  obtain ⟨ln, hln⟩ : ∃ ln, L.length = ln := ⟨_, rfl⟩
  rw [hln]
  rw [hln] at hll
  have HR := hide hrd
  have HLL := hide hL
  have HMK := hide hmark
  have HLN := hide hln
  clear hrd hL hmark hln
  clear y0 y2 y3 y5
  go_enter Tryd.func13, Tryd.ntmps13
  go_wp2
  go_loopw [9, 10] (fun i at_ wr => ∃ i' at' : Nat, lo ≤ at' ∧ at' ≤ hi ∧ i' ≤ ln ∧ i = .int .i64 i' ∧ at_ = .int .i64 at' ∧ Hid (L.drop i' = runsTo (fun i => !held i) at' (hi - at')) ∧ ∃ m, wr = w.drewN m) (fun _ at_ _ => hi - (intOf at_).toNat)
  case atStart => exact ⟨0, lo, by omega, by omega, by omega, rfl, rfl, by rw [List.drop_zero]; exact HLL.out, 0, rfl⟩
  case round =>
    obtain ⟨wo, rfl⟩ : ∃ wo : World, wo = wr := ⟨_, rfl⟩
    obtain ⟨i, at_, ha1, ha2, hia, rfl, rfl, HDR, m, rfl⟩ := hrel
    by_cases hlt : at_ < hi
    · have hm := HMK.out at_ (by omega)
      have k1 : (0 : Int) ≤ (at_ : Int) := by omega
      have k2 : (at_ : Int) < (n : Int) := by omega
      cases hh : held at_ with
      | true =>
        rw [hh] at hm
        have hsk := runsTo_skip (fun i => !held i) at_ (hi - at_ - 1) (by simp only [hh]; rfl)
        rw [show hi - at_ - 1 + 1 = hi - at_ by omega, show hi - at_ - 1 = hi - (at_ + 1) by omega, ← HDR.out] at hsk
        have HH := hide hh
        have HSK := hide hsk
        clear hh hsk
        go_wp2
        go_roundw
        case rel => exact ⟨i, at_ + 1, by omega, by omega, by omega, rfl, by go_num, HSK.out, _, rfl⟩
        case measure => simp [intOf]; omega
      | false =>
        rw [hh] at hm
        have HH := hide hh
        clear hh
        go_wp2
        go_loopw [11] (fun t wr => ∃ t' : Nat, at_ + t' ≤ hi ∧ t = .int .i64 t' ∧ Hid (∀ j, at_ ≤ j → j < at_ + t' → held j = false) ∧ ∃ m, wr = w.drewN m) (fun t _ => hi - (intOf t).toNat)
        case atStart => exact ⟨0, by omega, rfl, fun j h1 h2 => by omega, _, rfl⟩
        case round =>
          obtain ⟨t, ht, rfl, HALL, m2, rfl⟩ := hrel
          by_cases htc : at_ + t < hi
          · have dlt : decide (at_ + t < hi) = true := by simp; omega
            have dlt2 : decide ((at_ : Int) + (t : Int) < (hi : Int)) = true := by simp; omega
            have hm2 := HMK.out (at_ + t) (by omega)
            have k3 : (0 : Int) ≤ (at_ : Int) + (t : Int) := by omega
            have k4 : (at_ : Int) + (t : Int) < (n : Int) := by omega
            cases hh2 : held (at_ + t) with
            | false =>
              rw [hh2] at hm2
              have hall2 : ∀ j, at_ ≤ j → j < at_ + (t + 1) → held j = false := fun j h1 h2 => by
                by_cases e : j = at_ + t
                · subst e; exact hh2
                · exact HALL.out j h1 (by omega)
              have HH2 := hide hh2
              have HALL2 := hide hall2
              clear hh2 hall2
              go_wp2
              go_roundw
              case rel => exact ⟨t + 1, by omega, by go_num, HALL2.out, _, rfl⟩
              case measure => simp [intOf]; omega
            | true =>
              rw [hh2] at hm2
              have HH2 := hide hh2
              clear hh2
              have hn1 : 1 ≤ t := by rcases Nat.eq_zero_or_pos t with h0 | h0; (subst h0; exfalso; (have h4 := HH.out; have h5 := HH2.out; rw [Nat.add_zero, h4] at h5; cases h5)); exact h0
              have hrun := runsTo_run (fun i => !held i) at_ t (hi - (at_ + t)) hn1 (fun j h1 h2 => by simp only [HALL.out j h1 h2]; rfl) (.inr (by simp only [HH2.out]; rfl))
              rw [show t + (hi - (at_ + t)) = hi - at_ by omega, ← HDR.out] at hrun
              obtain ⟨g1, g2, g3⟩ := drop_cons hrun
              rcases HR.out with hnil | ⟨g, rfl, hrd⟩
              · subst hnil; simp at g1
              obtain ⟨q1, q2⟩ := hrd i g1
              have hf : fr L i = (at_ : Int) := by simp only [fr]; rw [g2]; rfl
              have hc : ct L i = (t : Int) := by simp only [ct]; rw [g2]; rfl
              rw [hf] at q1
              rw [hc] at q2
              rw [HLN.out] at g1
              have dl : decide (ln ≤ i) = false := by simp; omega
              have il1 : (0 : Int) ≤ (i : Int) := by omega
              have il2 : (i : Int) < (ln : Int) := by omega
              have G3 := hide g3
              clear g3
              clear hrun hrd hf hc g2
              go_wp2
              go_roundw
              case rel => exact ⟨i + 1, at_ + t, by omega, by omega, by omega, by go_num, by go_num, G3.out, _, rfl⟩
              case measure => simp [intOf]; omega
          · have hte : at_ + t = hi := by omega
            have dlt : decide (at_ + t < hi) = false := by simp; omega
            have dlt2 : decide ((at_ : Int) + (t : Int) < (hi : Int)) = false := by simp; omega
            have HTE := hide hte
            clear hte
            have hn1 : 1 ≤ t := by rcases Nat.eq_zero_or_pos t with h0 | h0; (subst h0; exfalso; (have h4 := HTE.out; omega)); exact h0
            have hrun := runsTo_run (fun i => !held i) at_ t (hi - (at_ + t)) hn1 (fun j h1 h2 => by simp only [HALL.out j h1 h2]; rfl) (.inl (by have h4 := HTE.out; omega))
            rw [show t + (hi - (at_ + t)) = hi - at_ by omega, ← HDR.out] at hrun
            obtain ⟨g1, g2, g3⟩ := drop_cons hrun
            rcases HR.out with hnil | ⟨g, rfl, hrd⟩
            · subst hnil; simp at g1
            obtain ⟨q1, q2⟩ := hrd i g1
            have hf : fr L i = (at_ : Int) := by simp only [fr]; rw [g2]; rfl
            have hc : ct L i = (t : Int) := by simp only [ct]; rw [g2]; rfl
            rw [hf] at q1
            rw [hc] at q2
            rw [HLN.out] at g1
            have dl : decide (ln ≤ i) = false := by simp; omega
            have il1 : (0 : Int) ≤ (i : Int) := by omega
            have il2 : (i : Int) < (ln : Int) := by omega
            have G3 := hide g3
            clear g3
            clear hrun hrd hf hc g2
            go_wp2
            go_roundw
            case rel => exact ⟨i + 1, at_ + t, by omega, by omega, by omega, by go_num, by go_num, G3.out, _, rfl⟩
            case measure => simp [intOf]; omega
    · have hae : at_ = hi := by omega
      subst hae
      have h5 := HDR.out
      rw [Nat.sub_self] at h5
      have h6 : i = ln := by
        have h7 := congrArg List.length h5
        rw [List.length_drop, HLN.out] at h7
        simp [runsTo] at h7
        omega
      subst h6
      clear h5
      go_wp2
      go_ret
      exact ⟨by simp, _, rfl⟩
end
end Go.Proofs.YtoghdhjeopcjkaaDoor
