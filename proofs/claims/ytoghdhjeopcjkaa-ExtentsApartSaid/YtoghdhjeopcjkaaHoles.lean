/- The walk of the laws' holesFresh. Conditions: the marks are read as told. -/
import Derived.Test.YtoghdhjeopcjkaaSpoilt
import Derived.Test.YtoghdhjeopcjkaaFirst
namespace Go.Proofs.Ytoghdhjeopcjkaa
open Go.RowKit

section
variable {w : World} {b wb cap n : Nat} {on : Nat → Bool}
theorem bmHoles_any (h : BmAt w b wb cap n on) (lo hi : Int) (l h' : Nat) (hl : mn (mx lo 0) n = (l : Int)) (hh : mx (mn hi n) 0 = (h' : Int)) :
    Calls Try.prog 55 #[.pointer (some ⟨b, 0, none⟩), .int .i64 lo, .int .i64 hi] w fun e w' =>
      ∃ v, e = .returned v ∧ Own w' w.heap.size v (runsTo (fun i => !on i) l (h' - l)) ∧ Kp [] w w' := by
  have e0 : (fun i => on i == false) = fun i => !on i := by funext i; simp
  have hm := mspans_any h lo hi false l h' hl hh
  rw [e0] at hm
  have HM := hide hm
  clear hm
  clear h
  go_enter Try.func55, Try.ntmps55
  go_wp2_with fail
  refine HM.out.mono ?_
  rintro e w1 ⟨v, rfl, ho, hk⟩
  have HO := hide ho
  have HK := hide hk
  clear ho hk
  go_wp2_with fail
  go_ret
  exact ⟨v, rfl, HO.out, HK.out⟩
end

/-- The first k of the marks. -/
def upTo (held : Nat → Bool) (k : Nat) : Nat → Bool := fun i => decide (i < k) && held i
theorem upTo_zero (held : Nat → Bool) : upTo held 0 = fun _ => false := by funext i; simp [upTo]
theorem upTo_on {held : Nat → Bool} {k : Nat} (h : held k = true) : upTo held (k + 1) = put (upTo held k) k true := by
  funext i
  simp only [upTo, put]
  by_cases e : i = k
  · subst e; simp [h]
  · rw [if_neg e]; congr 1; rw [decide_eq_decide]; omega
theorem upTo_off {held : Nat → Bool} {k : Nat} (h : held k = false) : upTo held (k + 1) = upTo held k := by
  funext i
  simp only [upTo]
  by_cases e : i = k
  · subst e; simp [h]
  · congr 1; rw [decide_eq_decide]; omega

set_option maxHeartbeats 4000000 in
set_option maxRecDepth 100000 in
theorem holesFresh_ok {w : World} {hb n : Nat} {held : Nat → Bool} (hrow : ∀ i, i < n → w.cell? ⟨hb, i, none⟩ = some (.bool (held i))) (hn : n ≤ 1024) (hhb : hb < w.heap.size) :
    Calls Try.prog 38 #[.slice (some ⟨hb, 0, none⟩) n n] w fun e w' => e = .returned (.bool true) ∧ Kp [] w w' := by
  have hmn : mn (mx (n : Int) 0) 1024 = n := by have := mx_le (n : Int) 0; have := mn_le (mx (n : Int) 0) 1024; omega
  have hl0 : mn (mx (0 : Int) 0) n = (0 : Nat) := by have := mx_le (0 : Int) 0; have := mn_le (mx (0 : Int) 0) n; omega
  have hh0 : mx (mn (n : Int) n) 0 = n := by have := mn_le (n : Int) n; have := mx_le (mn (n : Int) n) 0; omega
  have hl3 : mn (mx (-3 : Int) 0) n = (0 : Nat) := by have := mx_le (-3 : Int) 0; have := mn_le (mx (-3 : Int) 0) n; omega
  have hh3 : mx (mn ((n : Int) + 3) n) 0 = n := by have := mn_le ((n : Int) + 3) n; have := mx_le (mn ((n : Int) + 3) n) 0; omega
  have HROW := hide hrow
  have HMN := hide hmn
  have HL0 := hide hl0
  have HH0 := hide hh0
  have HL3 := hide hl3
  have HH3 := hide hh3
  clear hrow hmn hl0 hh0 hl3 hh3
  go_enter Try.func38, Try.ntmps38
  go_wp2_with fail
  refine (newBitmap_any _ n HMN.out _).mono ?_
  rintro e w1 ⟨b, bw, bc, rfl, hb1, hb2, hbm, hk1⟩
  have hs1 := hk1.size
  have hbl := hbm.lt
  have hbwl := hbm.wlt
  have HBM := hide hbm
  have HK1 := hide hk1
  clear hbm hk1
  go_wp2_with fail
  go_loopw [4] (fun i wr => ∃ k : Nat, k ≤ n ∧ i = .int .i64 k ∧ BmAt wr b bw bc n (upTo held k) ∧ Kp [b, bw] w1 wr) (fun i _ => n - (intOf i).toNat)
  case atStart => exact ⟨0, by omega, rfl, by rw [upTo_zero]; exact HBM.out, Kp.refl _ _⟩
  case round =>
    obtain ⟨k, hk, rfl, hbr, hkr⟩ := hrel
    have hkw : Kp [b, bw] w wr := (HK1.out.mono (by simp)).trans' hkr
    have hsr := hkr.size
    by_cases hlt : k < n
    · have hc := hkw.cell (HROW.out k hlt) (by simp; omega)
      have i1 : (0 : Int) ≤ (k : Int) := by omega
      have i2 : (k : Int) < (n : Int) := by omega
      have hoff : upTo held k k = false := by simp [upTo]
      cases hh : held k with
      | true =>
        rw [hh] at hc
        have hu := upTo_on hh
        have HBR := hide hbr
        have HKR := hide hkr
        have HU := hide hu
        have HOFF := hide hoff
        have HH := hide hh
        clear hbr hkr hu hoff hh
        clear hkw
        go_wp2_with fail
        refine (bmSet_put HBR.out _ k rfl hlt false HOFF.out).mono ?_
        rintro e w2 ⟨rfl, hbm2, hk2⟩
        have HBM2 := hide hbm2
        have HK2 := hide hk2
        clear hbm2 hk2
        go_wp2_with fail
        go_roundw
        case rel => exact ⟨k + 1, by omega, by go_num, by rw [HU.out]; exact HBM2.out, HKR.out.trans' HK2.out⟩
        case measure => simp [intOf]; omega
      | false =>
        rw [hh] at hc
        have hu := upTo_off hh
        have HBR := hide hbr
        have HKR := hide hkr
        have HU := hide hu
        have HOFF := hide hoff
        have HH := hide hh
        clear hbr hkr hu hoff hh
        clear hkw
        go_wp2_with fail
        go_roundw
        case rel => exact ⟨k + 1, by omega, by go_num, by rw [HU.out]; exact HBR.out, HKR.out⟩
        case measure => simp [intOf]; omega
    · have hkn : k = n := by omega
      subst hkn
      obtain ⟨L, hL⟩ : ∃ L, runsTo (fun i => !upTo held k i) 0 (k - 0) = L := ⟨_, rfl⟩
      have hLl : L.length ≤ 1024 := by have := runsTo_length (fun i => !upTo held k i) 0 (k - 0); rw [hL] at this; omega
      obtain ⟨ln, hln⟩ : ∃ ln, L.length = ln := ⟨_, rfl⟩
      rw [hln] at hLl
      have HBR := hide hbr
      have HKW := hide hkw
      have HL := hide hL
      have HLN := hide hln
      have HKR := hide hkr
      clear hbr hkw hL hln hkr
      clear hlt hk
      go_wp2_with fail
      refine (bmHoles_any HBR.out _ _ 0 k HL0.out HH0.out).mono ?_
      rw [HL.out]
      rintro e w3 ⟨v3, rfl, ho3, hk3⟩
      have hlt3 := ho3.lt
      obtain ⟨a3, c3, hv3⟩ := ho3.form
      rw [HLN.out] at hv3
      subst hv3
      have hs3 := hk3.size
      have HO3 := hide ho3
      have HK3 := hide hk3
      have HLT3 := hide hlt3
      clear ho3 hk3 hlt3
      go_wp2_with fail
      refine (copySpans_any HO3.out.src (by rw [HLN.out]; omega)).mono ?_
      rintro e w4 ⟨v4, rfl, ho4, hk4⟩
      have hlt4 := ho4.lt
      have hs4 := hk4.size
      obtain ⟨a4, c4, hv4⟩ := ho4.form
      rw [HLN.out] at hv4
      subst hv4
      have hbm4 := HBR.out.keep (HK3.out.trans' hk4) (by simp) (by simp)
      have HO4 := hide ho4
      have HK4 := hide hk4
      have HLT4 := hide hlt4
      have HBM4 := hide hbm4
      clear ho4 hk4 hlt4 hbm4
      go_wp2_with fail
      refine (bmHoles_any HBM4.out _ _ 0 k HL0.out HH0.out).mono ?_
      rw [HL.out]
      rintro e w5 ⟨v5, rfl, ho5, hk5⟩
      have hlt5 := ho5.lt
      obtain ⟨a5, c5, hv5⟩ := ho5.form
      rw [HLN.out] at hv5
      subst hv5
      have hs5 := hk5.size
      have ho35 := HO3.out.keep (HK4.out.trans' hk5) (by simp)
      have HO5 := hide ho5
      have HK5 := hide hk5
      have HLT5 := hide hlt5
      have HO35 := hide ho35
      clear ho5 hk5 hlt5 ho35
      go_wp2_with fail
      refine (spoil_any HO35.out (-17) (by rw [HLN.out]; omega) (by omega)).mono ?_
      rw [HLN.out]
      rintro e w6 ⟨_, a6, c6, rfl, rfl, hr6, hm6, hk6, hb6⟩
      have hk6 : Kq (fun x => wr.heap.size ≤ x ∧ x < w3.heap.size) w5 w6 := hk6.mono fun x hx => HLT3.out x hx
      have hs6 := hk6.size
      have hb6 : ∀ x, (Value.slice a6 (ln + 1) c6).ownBlock = some x → ((wr.heap.size ≤ x ∧ x < w3.heap.size) ∨ w5.heap.size ≤ x) ∧ x < w6.heap.size := fun x hx => ⟨(hb6 x hx).1.imp (fun h => HLT3.out x h) id, (hb6 x hx).2⟩
      have HR6 := hide hr6
      have HM6 := hide hm6
      have HK6 := hide hk6
      have HB6 := hide hb6
      clear hr6 hm6 hk6 hb6
      go_wp2_with fail
      have hz7 := blk_new w6 (.cells #[.slice a3 ln c3, .slice a6 (ln + 1) c6, .int .i64 (-17)] 67)
      have hk67 : Kp [] w6 (w6.alloc (.cells #[.slice a3 ln c3, .slice a6 (ln + 1) c6, .int .i64 (-17)] 67)) := (Kp.refl _ _).alloc _
      generalize w6.alloc (.cells #[.slice a3 ln c3, .slice a6 (ln + 1) c6, .int .i64 (-17)] 67) = w7 at hz7 hk67 ⊢
      have hs7 := hk67.size
      have hk57 : Kq (fun x => wr.heap.size ≤ x ∧ x < w3.heap.size) w5 w7 := HK6.out.trans (hk67.q.mono (by simp))
      have ho5 := HO5.out.keepq hk57 (fun x hx => by have := HLT5.out x hx; omega)
      have ho4 := (HO4.out.keep HK5.out (by simp)).keepq hk57 (fun x hx => by have := HLT4.out x hx; omega)
      have hr7 := HR6.out.keep hk67 (by simp)
      have hm7 := HM6.out.keep hk67 (by simp)
      obtain ⟨z0, z1, z2⟩ := blk3 hz7
      have hkb := blk_lt hz7
      have HZ7 := hide hz7
      have HO57 := hide ho5
      have HO47 := hide ho4
      have HR7 := hide hr7
      have HM7 := hide hm7
      have HK57 := hide hk57
      clear hz7 ho5 ho4 hr7 hm7 hk57
      clear hk67 hb6 hk6
      refine (sameSpans_eq HO57.out.rd HO47.out.rd (by rw [HLN.out]; omega)).mono ?_
      rintro e w8 ⟨rfl, k8, rfl⟩
      go_wp2_with fail
      refine (spoilt_ok (HR7.out.keep ((Kp.refl [] _).drewN _) (by simp)) (HM7.out.keep ((Kp.refl [] _).drewN _) (by simp)) (by omega)).mono ?_
      rintro e w8 ⟨rfl, hk8⟩
      have hk78 : Kp [] w7 w8 := ((Kp.refl [] w7).drewN k8).trans' hk8
      have hs8 := hk78.size
      have ho58 := HO57.out.keep hk78 (by simp)
      have HK78 := hide hk78
      have HO58 := hide ho58
      clear hk78 ho58
      clear hk8 z0 z1 z2
      go_wp2_with fail
      refine (spoil_any HO58.out (-18) (by rw [HLN.out]; omega) (by omega)).mono ?_
      rw [HLN.out]
      rintro e w9 ⟨_, a9, c9, rfl, rfl, hr9, hm9, hk9, hb9⟩
      have hk9 : Kq (fun x => w4.heap.size ≤ x ∧ x < w5.heap.size) w8 w9 := hk9.mono fun x hx => HLT5.out x hx
      have hs9 := hk9.size
      have hb9 : ∀ x, (Value.slice a9 (ln + 1) c9).ownBlock = some x → ((w4.heap.size ≤ x ∧ x < w5.heap.size) ∨ w8.heap.size ≤ x) ∧ x < w9.heap.size := fun x hx => ⟨(hb9 x hx).1.imp (fun h => HLT5.out x h) id, (hb9 x hx).2⟩
      have HR9 := hide hr9
      have HM9 := hide hm9
      have HK9 := hide hk9
      have HB9 := hide hb9
      clear hr9 hm9 hk9 hb9
      go_wp2_with fail
      have hz10 := blk_new w9 (.cells #[.slice a5 ln c5, .slice a9 (ln + 1) c9, .int .i64 (-18)] 67)
      have hk910 : Kp [] w9 (w9.alloc (.cells #[.slice a5 ln c5, .slice a9 (ln + 1) c9, .int .i64 (-18)] 67)) := (Kp.refl _ _).alloc _
      generalize w9.alloc (.cells #[.slice a5 ln c5, .slice a9 (ln + 1) c9, .int .i64 (-18)] 67) = w10 at hz10 hk910 ⊢
      have hs10 := hk910.size
      have hk710 : Kq (fun x => w4.heap.size ≤ x ∧ x < w5.heap.size) w7 w10 := (HK78.out.q.mono (by simp)).trans (HK9.out.trans (hk910.q.mono (by simp)))
      have hz710 := hk710.blk HZ7.out (by omega)
      have hr10 := HR7.out.keepq hk710 (fun x hx => by have := HLT3.out x hx; omega)
      have hm10 := HM7.out.keepq hk710 (fun x hx => by have := HB6.out x hx; omega)
      have hr10b := HR9.out.keep hk910 (by simp)
      have hm10b := HM9.out.keep hk910 (by simp)
      have ho10 := HO47.out.keepq hk710 (fun x hx => by have := HLT4.out x hx; omega)
      obtain ⟨L3, k31, k32⟩ : Kq (fun x => (wr.heap.size ≤ x ∧ x < w3.heap.size) ∨ (w4.heap.size ≤ x ∧ x < w5.heap.size)) w5 w10 := (HK57.out.mono fun x hx => .inl hx).trans (hk710.mono fun x hx => .inr hx)
      have hbm10 := (HBM4.out.keep HK5.out (by simp) (by simp)).keep k32 (fun hx => by have := k31 _ hx; omega) (fun hx => by have := k31 _ hx; omega)
      have hkw10 : Kp [] w w10 := by
        have h1 : Kp [] w w5 := (HKW.out.trans' ((HK3.out.trans' (HK4.out.trans' HK5.out)).mono (by simp))).drop (by simp; omega)
        exact h1.trans k32 (fun x hx => .inr (by have := k31 _ hx; omega))
      have HZ10 := hide hz10
      have HZ710 := hide hz710
      have HR10 := hide hr10
      have HM10 := hide hm10
      have HR10b := hide hr10b
      have HM10b := hide hm10b
      have HO10 := hide ho10
      have HBM10 := hide hbm10
      have HKW10 := hide hkw10
      clear hz10 hz710 hr10 hm10 hr10b hm10b ho10 hbm10 hkw10
      clear hk910 hk710 k31 k32
      refine (bmHoles_any HBM10.out _ _ 0 k HL3.out HH3.out).mono ?_
      rw [HL.out]
      rintro e w11 ⟨v11, rfl, ho11, hk11⟩
      obtain ⟨y0, y1, y2⟩ := blk3 (hk11.blk HZ710.out (by simp))
      obtain ⟨y3, y4, y5⟩ := blk3 (hk11.blk HZ10.out (by simp))
      have HO11 := hide ho11
      have HK11 := hide hk11
      clear ho11 hk11
      go_wp2_with fail
      refine (sameSpans_eq HO11.out.rd (HO10.out.rd.keep HK11.out (by simp)) (by rw [HLN.out]; omega)).mono ?_
      rintro e w12 ⟨rfl, k12, rfl⟩
      go_wp2_with fail
      refine (spoilt_ok (HR10.out.keep (HK11.out.drewN _) (by simp)) (HM10.out.keep (HK11.out.drewN _) (by simp)) (by omega)).mono ?_
      rintro e w13 ⟨rfl, hk13⟩
      have hk1013 := (HK11.out.drewN k12).trans' hk13
      obtain ⟨x3, x4, x5⟩ := blk3 (hk1013.blk HZ10.out (by simp))
      have HK13 := hide hk1013
      clear hk1013
      clear hk13 y0 y1 y2 y3 y4 y5
      go_wp2_with fail
      refine (spoilt_ok (HR10b.out.keep HK13.out (by simp)) (HM10b.out.keep HK13.out (by simp)) (by omega)).mono ?_
      rintro e w14 ⟨rfl, hk14⟩
      go_wp2_with fail
      go_ret
      exact ⟨rfl, HKW10.out.trans' (HK13.out.trans' hk14)⟩
end Go.Proofs.Ytoghdhjeopcjkaa
