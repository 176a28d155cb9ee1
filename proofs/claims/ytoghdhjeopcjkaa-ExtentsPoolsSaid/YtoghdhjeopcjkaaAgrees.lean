/- The walk of the laws' Book.agrees. Conditions: pool and book lie in memory and say the same (Both). -/
import Derived.Test.YtoghdhjeopcjkaaListed
import Derived.Test.YtoghdhjeopcjkaaSlS
namespace Go.Proofs.Ytoghdhjeopcjkaa
open Go.RowKit Go.Deep

theorem runs_held {S : Sh} {held : Nat → Bool} {lo hi : Nat} (h1 : S.data ≤ lo) (h2 : hi ≤ S.pages) (h3 : lo ≤ hi) : runs (freeOf S held) lo hi = runsTo (fun i => !held i) lo (hi - lo) := by
  unfold runs
  refine runsTo_congr fun i hi1 hi2 => ?_
  have : (decide (S.data ≤ i) && decide (i < S.pages)) = true := by simp; omega
  simp only [freeOf]
  rw [this]; rfl

section
variable {w : World} {b wb cap bb hb : Nat} {S : Sh} {held : Nat → Bool}
set_option maxHeartbeats 4000000 in
set_option maxRecDepth 100000 in
theorem agrees_ok (h : Both w b wb cap bb hb S held) :
    Calls Try.prog 35 #[.pointer (some ⟨bb, 0, none⟩), .pointer (some ⟨b, 0, none⟩)] w fun e w' => e = .returned (.bool true) ∧ Kp [] w w' := by
  have ok := h.pool.ok
  have o1 := ok.p2; have o2 := ok.c1; have o3 := ok.c2; have o4 := ok.d2
  have hcf := cnt_free h.area
  obtain ⟨fl, hfl⟩ : ∃ fl, cnt (freeOf S held) S.pages = fl := ⟨_, rfl⟩
  obtain ⟨D, hD⟩ : ∃ D, S.pages - S.data = D := ⟨_, rfl⟩
  obtain ⟨mn, hmn⟩ : ∃ mn, cnt held S.pages = mn := ⟨_, rfl⟩
  have hfr : ∀ m, Calls Try.prog 15 #[.pointer (some ⟨b, 0, none⟩)] (w.drewN m) fun e w' => e = .returned (.int .i64 fl) ∧ ∃ k, w' = (w.drewN m).drewN k := fun m => by
    refine (pFree_any (h.pool.drewN m)).mono ?_
    rw [hfl]
    rintro e w19 ⟨rfl, rfl⟩
    exact ⟨rfl, 0, rfl⟩
  have e1 : IntKind.i64.wrap ((S.pages : Int) - (S.data : Int)) = (D : Int) := by rw [IntKind.wrap_i64]; omega
  have e2 : IntKind.i64.wrap ((D : Int) - (mn : Int)) = (fl : Int) := by rw [IntKind.wrap_i64]; omega
  have hbook : BookAt w bb hb S S.pages held mn := hmn ▸ h.book
  obtain ⟨y0, y2, y3, y4, y5⟩ := hbook.cells
  have hml := h.pool.m.off
  have hsp := runs_held (S := S) (held := held) (Nat.le_refl S.data) (Nat.le_refl S.pages) (by omega)
  have hbl := hbook.lt
  have H := hide h
  have OK := hide ok
  have HFR := hide hfr
  have HBK := hide hbook
  have HOFF := hide hml
  have HSP := hide hsp
  clear h ok hfr hbook hml hsp
  clear hcf hfl hD hmn
  go_enter Try.func35, Try.ntmps35
  go_wp2
  go_quiet ((go_at_call 15; refine Calls.quiet_of (HFR.out _)))
  go_wp2
  clear e1 e2
  go_loopw [5] (fun i wr => (i = .int .i64 (-1) ∨ ∃ k : Nat, k ≤ S.pages + 1 ∧ i = .int .i64 k) ∧ ∃ m, wr = w.drewN m) (fun i _ => ((S.pages : Int) + 1 - intOf i).toNat)
  case atStart => exact ⟨.inl rfl, _, rfl⟩
  case round =>
    obtain ⟨rfl | ⟨k, hk, rfl⟩, m, rfl⟩ := hrel
    · have hv : (decide ((0 : Int) ≤ -1) && freeOf S held (-1 : Int).toNat) = false := by simp
      have d1 : decide ((S.data : Int) ≤ -1) = false := by simp; omega
      have HV := hide hv
      clear hv
      go_wp2_with (go_at_call 47; refine (pHas_any (H.out.pool.drewN _) _).mono ?_; rw [HV.out]; rintro e w' ⟨rfl, kk, rfl⟩)
      go_roundw
      case rel => exact ⟨.inr ⟨0, by omega, by go_num⟩, _, rfl⟩
      case measure => simp [intOf]; omega
    · by_cases hle : k ≤ S.pages
      · have hcast : ((k : Int)).toNat = k := by simp
        have hp0 : decide ((0 : Int) ≤ (k : Int)) = true := by simp
        by_cases h1 : S.data ≤ k
        · by_cases h2 : k < S.pages
          · have hmk := HBK.out.mark h2
            have hv : (decide ((0 : Int) ≤ (k : Int)) && freeOf S held (k : Int).toNat) = !held k := by
              rw [hp0, hcast]; simp only [freeOf]
              have : (decide (S.data ≤ k) && decide (k < S.pages)) = true := by simp; omega
              rw [this]; rfl
            have d1 : decide ((S.data : Int) ≤ (k : Int)) = true := by simp; omega
            have d1' : decide (S.data ≤ k) = true := by simp; omega
            have d2 : decide ((k : Int) < (S.pages : Int)) = true := by simp; omega
            have d2' : decide (k < S.pages) = true := by simp; omega
            have k1 : (0 : Int) ≤ (k : Int) := by omega
            have k2 : (k : Int) < (S.pages : Int) := by omega
            clear hp0 hcast
            cases hh : held k with
            | true =>
              rw [hh] at hmk hv
              have HV := hide hv
              have HH := hide hh
              clear hv hh
              go_wp2_with (go_at_call 47; refine (pHas_any (H.out.pool.drewN _) _).mono ?_; rw [HV.out]; rintro e w' ⟨rfl, kk, rfl⟩)
              go_roundw
              case rel => exact ⟨.inr ⟨k + 1, by omega, by go_num⟩, _, rfl⟩
              case measure => simp [intOf]; omega
            | false =>
              rw [hh] at hmk hv
              have HV := hide hv
              have HH := hide hh
              clear hv hh
              go_wp2_with (go_at_call 47; refine (pHas_any (H.out.pool.drewN _) _).mono ?_; rw [HV.out]; rintro e w' ⟨rfl, kk, rfl⟩)
              go_roundw
              case rel => exact ⟨.inr ⟨k + 1, by omega, by go_num⟩, _, rfl⟩
              case measure => simp [intOf]; omega
          · have hv : (decide ((0 : Int) ≤ (k : Int)) && freeOf S held (k : Int).toNat) = false := by
              rw [hp0, hcast, HOFF.out k (by omega)]; rfl
            have d1 : decide ((S.data : Int) ≤ (k : Int)) = true := by simp; omega
            have d1' : decide (S.data ≤ k) = true := by simp; omega
            have d2 : decide ((k : Int) < (S.pages : Int)) = false := by simp; omega
            have d2' : decide (k < S.pages) = false := by simp; omega
            clear hp0 hcast
            have HV := hide hv
            clear hv
            go_wp2_with (go_at_call 47; refine (pHas_any (H.out.pool.drewN _) _).mono ?_; rw [HV.out]; rintro e w' ⟨rfl, kk, rfl⟩)
            go_roundw
            case rel => exact ⟨.inr ⟨k + 1, by omega, by go_num⟩, _, rfl⟩
            case measure => simp [intOf]; omega
        · have hv : (decide ((0 : Int) ≤ (k : Int)) && freeOf S held (k : Int).toNat) = false := by
            rw [hp0, hcast, freeOf_low (by omega)]; rfl
          have d1 : decide ((S.data : Int) ≤ (k : Int)) = false := by simp; omega
          have d1' : decide (S.data ≤ k) = false := by simp; omega
          clear hp0 hcast
          have HV := hide hv
          clear hv
          go_wp2_with (go_at_call 47; refine (pHas_any (H.out.pool.drewN _) _).mono ?_; rw [HV.out]; rintro e w' ⟨rfl, kk, rfl⟩)
          go_roundw
          case rel => exact ⟨.inr ⟨k + 1, by omega, by go_num⟩, _, rfl⟩
          case measure => simp [intOf]; omega
      · have hke : k = S.pages + 1 := by omega
        have hkle : ¬ (k : Int) ≤ (S.pages : Int) := by omega
        clear hke hle
        go_wp2
        go_region_held3 (fun w' => w'.cell? ⟨bb, 0, none⟩ = some (.int .i64 S.pages) ∧ w'.cell? ⟨bb, 3, none⟩ = some (.int .i64 S.data))
          (first | exact ⟨z1, z2⟩ | exact ⟨y0, y3⟩)
          (first
            | (go_at_call 22; refine (pSpans_any (H.out.pool.keep (by exact (Kp.refl [] w).drewN (m + 1)) (by simp) (by simp))).mono ?_; rintro e w1 ⟨v1, rfl, hown1, hk1⟩; have z1 := hk1.cell (a := ⟨bb, 0, none⟩) y0 (by simp); have z2 := hk1.cell (a := ⟨bb, 3, none⟩) y3 (by simp))
            | (go_at_call 54; refine (listed_ok (HBK.out.keep (((Kp.refl [] w).drewN (m + 1)).trans' hk1) (by simp) (by simp)) v1 _ _ _ S.data S.pages rfl rfl hown1.rd HSP.out (by omega) (Nat.le_refl _) (by omega)).mono ?_; rintro e w2 ⟨rfl, k2, rfl⟩))
        have hk2 : Kp [] w (w1.drewN k2) := (((Kp.refl [] w).drewN (m + 1)).trans' hk1).drewN k2
        generalize w1.drewN k2 = w2 at hk2 ⊢
        have hs2 := hk2.size
        obtain ⟨x0, x2, x3, x4, x5⟩ := (HBK.out.keep hk2 (by simp) (by simp)).cells
        have hl0 := S.lo_zero
        have HK2 := hide hk2
        have HL0 := hide hl0
        clear hk2 hl0
        clear hk1 hown1 z1 z2 y0 y2 y3 y4 y5 hkle hk
        go_wp2
        go_loopw [7, 8] (fun at_ c wr => ∃ k : Nat, k ≤ S.cores ∧ c = .int .i64 k ∧ at_ = .int .i64 (S.lo k : Nat) ∧ Kp [] w wr) (fun _ c _ => S.cores - (intOf c).toNat)
        case atStart => exact ⟨0, by omega, rfl, by rw [HL0.out], HK2.out⟩
        case round =>
          obtain ⟨wo, rfl⟩ : ∃ wo : World, wo = wr := ⟨_, rfl⟩
          obtain ⟨k, hk, rfl, rfl, hkr⟩ := hrel
          obtain ⟨y0, y2, y3, y4, y5⟩ := (HBK.out.keep hkr (by simp) (by simp)).cells
          have HKR := hide hkr
          clear hkr
          by_cases hlt : k < S.cores
          · have hlm := Sh.lo_lt OK.out k
            have hlb := Sh.lo_bd OK.out (k + 1) (by omega)
            have hld := Sh.lo_mono (S := S) 0 k (by omega)
            rw [Sh.lo_zero] at hld
            have hrh := runs_held (S := S) (held := held) (lo := S.lo k) (hi := S.lo (k + 1)) hld hlb (by omega)
            obtain ⟨F, hF⟩ : ∃ F, S.lo k = F := ⟨_, rfl⟩
            obtain ⟨C, hC⟩ : ∃ C, S.lo (k + 1) = F + C := ⟨S.lo (k + 1) - F, by omega⟩
            rw [hF, hC] at hrh
            rw [hF] at hlm hld
            rw [hC] at hlm hlb
            rw [hF]
            have ew : IntKind.i64.wrap ((F : Int) + (C : Int)) = ((F + C : Nat) : Int) := by rw [IntKind.wrap_i64]; omega
            have hd1 : decide ((C : Int) < 1) = false := by simp; omega
            have hd2 : decide (C < 1) = false := by simp; omega
            have hd3 : decide (C = 0) = false := by simp; omega
            have hd4 : ((F : Int) != (F : Int)) = false := by simp
            have HF := hide hF
            have HC := hide hC
            have HRH := hide hrh
            clear hF hC hrh
            go_wp2_with (go_at_call 16; refine (pArea_as (H.out.pool.keep HKR.out (by simp) (by simp)) _ k F C rfl hlt HF.out HC.out).mono ?_; rintro e x1 ⟨rfl, hkx1⟩)
            have hza := blk_new x1 (.cells #[.int .i64 F, .int .i64 C] 31)
            have hzz := blk2 hza
            have hk01 := HKR.out.trans' hkx1
            have HZA := hide hza
            have HK01 := hide hk01
            clear hza hk01
            clear hkx1
            go_region_held3 (fun w' => w'.cell? ⟨x1.heap.size, 0, none⟩ = some (.int .i64 F) ∧ w'.cell? ⟨x1.heap.size, 1, none⟩ = some (.int .i64 C))
              (first | exact hzz | exact hz3)
              (first
                | (go_at_call 17; refine (pCore_in (H.out.pool.keep ((HK01.out.alloc _).drew) (by simp) (by simp)) _ k rfl hlt).mono ?_; rw [HF.out, HC.out]; rintro e x3 ⟨v3, rfl, hown3, hk3⟩; have hz3 := blk2 (hk3.blk HZA.out (by simp)))
                | (go_at_call 54; refine (listed_ok (HBK.out.keep (((HK01.out.alloc _).drew).trans' hk3) (by simp) (by simp)) v3 _ _ _ F (F + C) (by first | rfl | omega) (by first | rfl | omega) hown3.rd HRH.out (by omega) (by omega) (by omega)).mono ?_; rintro e x4 ⟨rfl, k4, rfl⟩))
            obtain ⟨z30, z31⟩ := hz3
            have hk03 := (HK01.out.alloc (.cells #[.int .i64 F, .int .i64 C] 31)).drew.trans' hk3
            have HK03 := hide hk03
            clear hk03
            clear hk3 hown3 hzz
            go_wp2
            go_roundw
            case rel => exact ⟨k + 1, by omega, by go_num, by rw [HC.out]; go_num, HK03.out.drewN _⟩
            case measure => simp [intOf]; omega
          · have hkc : k = S.cores := by omega
            subst hkc
            have hll := Sh.lo_last OK.out
            rw [hll]
            clear hll
            go_wp2
            go_ret
            exact ⟨by simp, HKR.out⟩
end
end Go.Proofs.Ytoghdhjeopcjkaa
