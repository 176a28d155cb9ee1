
/- The walks of the reference's spans, Spans and Core. Conditions: the marks are read as told. -/
import Derived.Test.YtoghdhjeopcjkaaDoorRef1
namespace Go.Proofs.YtoghdhjeopcjkaaDoor
open Go.RowKit Go.Deep

/-- A slice of marks that is read. -/
def RdB (w : World) (v : Value) (n : Nat) (f : Nat → Bool) : Prop :=
  ∃ a cap, v = .slice a n cap ∧ (n = 0 ∨ ∃ g, a = some ⟨g, 0, none⟩ ∧ ∀ i, i < n → w.cell? ⟨g, i, none⟩ = some (.bool (f i)))
theorem RdB.keep {S : List Nat} {w w' : World} {v : Value} {n : Nat} {f : Nat → Bool} (h : RdB w v n f) (k : Kp S w w') (hS : ∀ b, v.ownBlock = some b → b ∉ S) : RdB w' v n f := by
  obtain ⟨a, cap, rfl, h | ⟨g, rfl, h⟩⟩ := h
  · exact ⟨_, _, rfl, .inl h⟩
  · exact ⟨_, _, rfl, .inr ⟨g, rfl, fun i hi => k.cell (h i hi) (hS _ rfl)⟩⟩
/-- Behind k marks: the closed runs l, and an open one of c marks. -/
structure SpInv (f : Nat → Bool) (n k c : Nat) (l : Sps) : Prop where
  le : c ≤ k
  z : c = 0 → runsTo f 0 k = l ∧ (k < n → f k = true → k = 0 ∨ f (k - 1) = false)
  p : 0 < c → runsTo f 0 k = l ++ [((k : Int) - c, (c : Int))] ∧ k < n ∧ f k = true
theorem SpInv.zero (f : Nat → Bool) (n : Nat) : SpInv f n 0 0 [] := ⟨Nat.le_refl _, fun _ => ⟨rfl, fun _ _ => .inl rfl⟩, fun h => by omega⟩
theorem SpInv.off {f : Nat → Bool} {n k c : Nat} {l : Sps} (h : SpInv f n k c l) (hf : f k = false) : c = 0 ∧ SpInv f n (k + 1) 0 l := by
  have hc : c = 0 := by
    rcases Nat.eq_zero_or_pos c with h0 | h0
    · exact h0
    · have := (h.p h0).2.2; rw [hf] at this; cases this
  refine ⟨hc, Nat.zero_le _, fun _ => ⟨?_, fun _ _ => .inr (by simpa using hf)⟩, fun h => by omega⟩
  simp only [runsTo, Nat.zero_add]
  rw [hf]
  simpa using (h.z hc).1
theorem SpInv.grow {f : Nat → Bool} {n k c : Nat} {l : Sps} (h : SpInv f n k c l) (hk : k < n) (hf : f k = true) : runsTo f 0 (k + 1) = l ++ [(((k : Int) + 1) - ((c : Int) + 1), (c : Int) + 1)] := by
  have hst : runsTo f 0 (k + 1) = push (runsTo f 0 k) (k : Int) := by simp only [runsTo, Nat.zero_add]; rw [hf]; rfl
  rcases Nat.eq_zero_or_pos c with h0 | h0
  · subst h0
    obtain ⟨h1, h2⟩ := h.z rfl
    rcases h2 hk hf with h3 | h3
    · subst h3
      rw [hst]
      simp only [runsTo] at h1
      subst h1
      simp [runsTo, push]
    · obtain ⟨k', rfl⟩ : ∃ k', k = k' + 1 := by
        rcases k with _ | k'
        · simp at h3; rw [hf] at h3; cases h3
        · exact ⟨k', rfl⟩
      simp only [Nat.add_sub_cancel] at h3
      have e1 := runsTo_cut f 0 k' 2 (by simpa using h3)
      have e2 : runsTo f 0 (k' + 1) = runsTo f 0 k' := by simp only [runsTo, Nat.zero_add]; rw [h3]; rfl
      have e3 : runsTo f (0 + k') 2 = [(((k' + 1 : Nat) : Int), 1)] := by
        simp only [runsTo, Nat.zero_add, Nat.add_zero]
        rw [h3, hf]
        simp [push]
      rw [show k' + 1 + 1 = k' + 2 by omega, e1, e3, ← e2, h1]
      congr 2
      simp
  · obtain ⟨h1, _, _⟩ := h.p h0
    rw [hst, h1, push_join _ _ _ _ (by omega)]
    congr 3
    omega
theorem SpInv.close {f : Nat → Bool} {n k c : Nat} {l : Sps} (h : SpInv f n k c l) (hk : k < n) (hf : f k = true) (hl : k + 1 = n ∨ f (k + 1) = false) : SpInv f n (k + 1) 0 (l ++ [(((k : Int) + 1) - ((c : Int) + 1), (c : Int) + 1)]) :=
  ⟨Nat.zero_le _, fun _ => ⟨h.grow hk hf, fun h1 h2 => by rcases hl with hl | hl; omega; rw [hl] at h2; cases h2⟩, fun h => by omega⟩
theorem SpInv.more {f : Nat → Bool} {n k c : Nat} {l : Sps} (h : SpInv f n k c l) (hk : k < n) (hf : f k = true) (h1 : k + 1 < n) (h2 : f (k + 1) = true) : SpInv f n (k + 1) (c + 1) l :=
  ⟨by have := h.le; omega, fun h => by omega, fun _ => ⟨by rw [h.grow hk hf]; push_cast; rfl, h1, h2⟩⟩
theorem SpInv.done {f : Nat → Bool} {n c : Nat} {l : Sps} (h : SpInv f n n c l) : runsTo f 0 n = l := by
  rcases Nat.eq_zero_or_pos c with h0 | h0
  · exact (h.z h0).1
  · have := (h.p h0).2.1; omega

set_option maxHeartbeats 2000000 in
set_option maxRecDepth 100000 in
theorem rspans_any {w : World} {v : Value} {n : Nat} {f : Nat → Bool} (h : RdB w v n f) (hn : n ≤ 4096) :
    Calls Tryd.prog 38 #[v] w fun e w' => ∃ v', e = .returned v' ∧ Own w' w.heap.size v' (runsTo f 0 n) ∧ Kp [] w w' := by
  obtain ⟨a, cap, rfl, h⟩ := h
  have H := hide h
  clear h
  go_enter Tryd.func38, Tryd.ntmps38
  go_wp2
  go_loopw [3, 4, 5] (fun l c i wr => ∃ k c' : Nat, ∃ L : Sps, k ≤ n ∧ i = .int .i64 k ∧ c = .int .i64 c' ∧ Hid (SpInv f n k c' L) ∧ c' ≤ k ∧ L.length ≤ k ∧ Own wr w.heap.size l L ∧ Kp [] w wr) (fun _ _ i _ => n - (intOf i).toNat)
  case atStart => exact ⟨0, 0, [], by omega, rfl, rfl, SpInv.zero _ _, by omega, by simp, Own.nil _ _, Kp.refl _ _⟩
  case round =>
    obtain ⟨k, c, L, hk, rfl, rfl, HI, hck, hlk, hown, hkr⟩ := hrel
    by_cases hlt : k < n
    · rcases H.out with h0 | ⟨g, rfl, hc⟩
      · omega
      have m0 := hkr.cell (hc k hlt) (by simp)
      have i1 : (0 : Int) ≤ (k : Int) := by omega
      have i2 : (k : Int) < (n : Int) := by omega
      have hlow := hkr.size
      have hlts := hown.lt
      cases hf : f k with
      | false =>
        rw [hf] at m0
        have hs := HI.out.off hf
        obtain ⟨hs1, hs2⟩ := hs
        subst hs1
        by_cases hkn : k + 1 = n
        · have t1 : ((k : Int) + 1 == (n : Int)) = true := by simp; omega
          have HO := hide hown
          have HKR := hide hkr
          have HS := hide hs2
          have HF := hide hf
          have HKN := hide hkn
          clear hown hkr hs2 hf hkn
          clear hc
          go_wp2
          go_roundw
          case rel => exact ⟨k + 1, 0, L, by omega, by go_num, rfl, HS.out, by omega, by omega, HO.out, HKR.out⟩
          case measure => simp [intOf]; omega
        · have t1 : ((k : Int) + 1 == (n : Int)) = false := by simp; omega
          have m1 := hkr.cell (hc (k + 1) (by omega)) (by simp)
          have i3 : (0 : Int) ≤ (k : Int) + 1 := by omega
          have i4 : (k : Int) + 1 < (n : Int) := by omega
          have HO := hide hown
          have HKR := hide hkr
          have HS := hide hs2
          have HF := hide hf
          have HKN := hide hkn
          clear hown hkr hs2 hf hkn
          clear hc
          go_wp2
          go_roundw
          case rel => exact ⟨k + 1, 0, L, by omega, by go_num, rfl, HS.out, by omega, by omega, HO.out, HKR.out⟩
          case measure => simp [intOf]; omega
      | true =>
        rw [hf] at m0
        by_cases hkn : k + 1 = n
        · have t1 : ((k : Int) + 1 == (n : Int)) = true := by simp; omega
          have hs := HI.out.close hlt hf (.inl hkn)
          have HO := hide hown
          have HKR := hide hkr
          have HS := hide hs
          have HF := hide hf
          have HKN := hide hkn
          have HLT := hide hlts
          clear hown hkr hs hf hkn hlts
          clear hc
          go_wp2_with (at_builtin; refine app_span2 rfl _ _ rfl w.heap.size _ L rfl (HO.out.keep ((Kp.refl [] _).alloc _) (by simp)) _ ((k : Int) + 1 - ((c : Int) + 1)) ((c : Int) + 1) _ rfl (blk_new' (by simp) _) (by omega) (by simp; omega) ?_; intro v' w6 hown6 hgr hwh; have hk6 : Kp [] w w6 := (HKR.out.alloc _).grown hgr (fun x hx => .inr (HLT.out x hx).1); have HO6 := hide hown6; have HK6 := hide hk6; clear hown6 hgr hwh hk6)
          go_roundw
          case rel => exact ⟨k + 1, 0, _, by omega, by go_num, rfl, HS.out, by omega, by simp; omega, HO6.out, HK6.out⟩
          case measure => simp [intOf]; omega
        · have t1 : ((k : Int) + 1 == (n : Int)) = false := by simp; omega
          have m1 := hkr.cell (hc (k + 1) (by omega)) (by simp)
          have i3 : (0 : Int) ≤ (k : Int) + 1 := by omega
          have i4 : (k : Int) + 1 < (n : Int) := by omega
          cases hf1 : f (k + 1) with
          | false =>
            rw [hf1] at m1
            have hs := HI.out.close hlt hf (.inr hf1)
            have HO := hide hown
            have HKR := hide hkr
            have HS := hide hs
            have HF := hide hf
            have HKN := hide hkn
            have HLT := hide hlts
            have HF1 := hide hf1
            clear hown hkr hs hf hkn hlts hf1
            clear hc
            go_wp2_with (at_builtin; refine app_span2 rfl _ _ rfl w.heap.size _ L rfl (HO.out.keep ((Kp.refl [] _).alloc _) (by simp)) _ ((k : Int) + 1 - ((c : Int) + 1)) ((c : Int) + 1) _ rfl (blk_new' (by simp) _) (by omega) (by simp; omega) ?_; intro v' w6 hown6 hgr hwh; have hk6 : Kp [] w w6 := (HKR.out.alloc _).grown hgr (fun x hx => .inr (HLT.out x hx).1); have HO6 := hide hown6; have HK6 := hide hk6; clear hown6 hgr hwh hk6)
            go_roundw
            case rel => exact ⟨k + 1, 0, _, by omega, by go_num, rfl, HS.out, by omega, by simp; omega, HO6.out, HK6.out⟩
            case measure => simp [intOf]; omega
          | true =>
            rw [hf1] at m1
            have hs := HI.out.more hlt hf (by omega) hf1
            have HO := hide hown
            have HKR := hide hkr
            have HS := hide hs
            have HF := hide hf
            have HKN := hide hkn
            have HF1 := hide hf1
            clear hown hkr hs hf hkn hf1
            clear hc
            go_wp2
            go_roundw
            case rel => exact ⟨k + 1, c + 1, L, by omega, by go_num, by go_num, HS.out, by omega, by omega, HO.out, HKR.out⟩
            case measure => simp [intOf]; omega
    · have hkn : k = n := by omega
      subst hkn
      have hd := HI.out.done
      have HD := hide hd
      have HO := hide hown
      have HKR := hide hkr
      clear hd hown hkr
      go_wp2
      go_ret
      exact ⟨_, rfl, by rw [HD.out]; exact HO.out, HKR.out⟩
end Go.Proofs.YtoghdhjeopcjkaaDoor
