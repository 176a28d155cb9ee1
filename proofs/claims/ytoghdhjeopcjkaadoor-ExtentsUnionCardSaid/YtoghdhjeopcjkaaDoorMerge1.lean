
/- The walks of a bitmap's Count and Merge. Conditions: the bitmaps lie in memory (BmAt); the library's table lies in block 0. -/
import Derived.Test.YtoghdhjeopcjkaaDoorMergeP
import Derived.Test.YtoghdhjeopcjkaaDoorFirst
import Derived.StillTactics
namespace Go.Proofs.YtoghdhjeopcjkaaDoor
open Go.RowKit Go.Deep

section
variable {w : World} {b wb cap n : Nat} {on : Nat → Bool}
theorem bmCount_any (h : BmAt w b wb cap n on) :
    Calls Tryd.prog 10 #[.pointer (some ⟨b, 0, none⟩)] w fun e w' => e = .returned (.int .i64 (cnt on n)) ∧ w = w' := by
  have c1 := h.c1
  clear h
  go_enter Tryd.func10, Tryd.ntmps10
  go_wp2
  go_ret
  exact ⟨rfl, rfl⟩

/-- The other bitmap of a merge: the same, or one apart. -/
def Oth (w : World) (b wb cap n : Nat) (on : Nat → Bool) (ob ow oc no : Nat) (oo : Nat → Bool) : Prop :=
  (ob = b ∧ ow = wb ∧ oc = cap ∧ no = n ∧ oo = on) ∨ (ob ≠ b ∧ ob ≠ wb ∧ ow ≠ b ∧ ow ≠ wb ∧ BmAt w ob ow oc no oo)
theorem Oth.at_ {ob ow oc no k : Nat} {oo : Nat → Bool} {wr : World} (h : Oth w b wb cap n on ob ow oc no oo) (hm : BmAt wr b wb cap n (mg on oo n k)) (hk : Kp [b, wb] w wr) :
    wr.cell? ⟨ob, 2, none⟩ = some (.slice (some ⟨ow, 0, none⟩) ((no + 63) / 64) oc) ∧ ∀ j, j < (no + 63) / 64 → ∃ y : Nat, wr.cell? ⟨ow, j, none⟩ = some (.int .u64 y) ∧ WordOk y j oo := by
  rcases h with ⟨rfl, rfl, rfl, rfl, rfl⟩ | ⟨h1, h2, h3, h4, h5⟩
  · have e : mg oo oo no k = oo := by funext i; simp only [mg]; cases oo i <;> simp
    rw [e] at hm
    exact ⟨hm.c2, fun j hj => hm.wordk hj⟩
  · have h6 := h5.keep hk (by simp; omega) (by simp; omega)
    exact ⟨h6.c2, fun j hj => h6.wordk hj⟩
theorem Oth.nle {ob ow oc no : Nat} {oo : Nat → Bool} (h : Oth w b wb cap n on ob ow oc no oo) (hb : BmAt w b wb cap n on) : no ≤ 1024 ∧ ∀ i, no ≤ i → oo i = false := by
  rcases h with ⟨rfl, rfl, rfl, rfl, rfl⟩ | ⟨_, _, _, _, h5⟩
  · exact ⟨hb.nle, hb.off⟩
  · exact ⟨h5.nle, h5.off⟩
def Merged (w : World) (b wb cap n : Nat) (on oo : Nat → Bool) (e : Ending) (w' : World) : Prop :=
  ∃ v, e = .returned (.int .i64 v) ∧ IsLeast (bothOn on oo) n v ∧ BmAt w' b wb cap n (fun i => on i || cap2 n oo i) ∧ Kp [b, wb] w w'
theorem bmMerge_nil (w : World) (b : Nat) :
    Calls Tryd.prog 12 #[.pointer (some ⟨b, 0, none⟩), .pointer none] w fun e w' => e = .returned (.int .i64 (-1)) ∧ w = w' := by
  go_enter Tryd.func12, Tryd.ntmps12
  go_wp2
  go_ret
  exact ⟨rfl, rfl⟩
theorem ones_still (x : Nat) (hx : x < 18446744073709551616) (w : World) : Calls Tryd.prog 32 #[.int .u64 x] w fun e w' => e = .returned (.int .i64 (pop x)) ∧ w' = w :=
  (ones_any x hx w).mono fun _ _ ⟨h1, h2⟩ => ⟨h1, h2.symm⟩

theorem mask_eq (y j : Nat) (hy : y < 18446744073709551616) (hj : j < 64) : bits .and .u64 (y : Int) (IntKind.u64.wrap (IntKind.u64.wrap (2 ^ j) - 1)) = ((y &&& (2 ^ j - 1) : Nat) : Int) := by
  have h1 := pow_lt_word j hj
  have h3 : 0 < 2 ^ j := Nat.two_pow_pos _
  have e : IntKind.u64.wrap (IntKind.u64.wrap (2 ^ j) - 1) = ((2 ^ j - 1 : Nat) : Int) := by
    rw [wrap_shl _ hj, IntKind.wrap_u64]
    generalize (2 : Nat) ^ j = q at h1 h3
    omega
  rw [e, u64_and_nat _ _ hy (by omega)]
set_option maxHeartbeats 2000000 in
set_option maxRecDepth 100000 in
theorem bmMerge_some {ob ow oc no l : Nat} {oo : Nat → Bool} (hnw : (n + 63) / 64 = l + 1) (h : BmAt w b wb cap n on) (ho : Oth w b wb cap n on ob ow oc no oo) (hT : TabOk w) (hb0 : b ≠ 0) (hw0 : wb ≠ 0) :
    Calls Tryd.prog 12 #[.pointer (some ⟨b, 0, none⟩), .pointer (some ⟨ob, 0, none⟩)] w (Merged w b wb cap n on oo) := by
  obtain ⟨Q, hQ⟩ : ∃ Q, Q = Merged w b wb cap n on oo := ⟨_, rfl⟩
  rw [← hQ]
  have hnl := h.nle
  have hno := (ho.nle h).1
  have hmz : BmAt w b wb cap n (mg on oo n 0) := by rw [mg_zero]; exact h
  have c2 := h.c2
  have o2 := (ho.at_ hmz (Kp.refl _ _)).1
  obtain ⟨mw, hmw⟩ : ∃ mw, (no + 63) / 64 = mw := ⟨_, rfl⟩
  rw [hnw] at c2
  rw [hmw] at o2
  have kmn := run_mn
  obtain ⟨K, hK⟩ : ∃ K : Nat, mn ((l : Int) + 1) (mw : Int) = (K : Int) := ⟨(mn ((l : Int) + 1) (mw : Int)).toNat, by have := mn_le ((l : Int) + 1) (mw : Int); omega⟩
  have hKb := mn_le ((l : Int) + 1) (mw : Int)
  rw [hK] at hKb
  obtain ⟨hK1, hK2, hK3⟩ := hKb
  have hKb : K ≤ 16 := by omega
  have hne := h.ne
  have H := hide h
  have HO := hide ho
  have HT := hide hT
  have HQ := hide hQ
  have HNW := hide hnw
  have HMW := hide hmw
  have HMZ := hide hmz
  clear h ho hT hQ hnw hmw hmz
  go_enter Tryd.func12, Tryd.ntmps12
  go_wp2_with fail
  go_quiet (fail)
  go_wp2_with fail
  have hk0 : Kp [b, wb] w (w.drewN nq) := (Kp.refl _ _).drewN nq
  have hm0 := HMZ.out.keep (S := []) ((Kp.refl _ _).drewN nq) (by simp) (by simp)
  generalize w.drewN nq = wd at hk0 hm0 ⊢
  have HK0 := hide hk0
  have HM0 := hide hm0
  clear hk0 hm0
  clear c2 o2
  go_loopw [5, 25] (fun v i wr => ∃ (k : Nat) (u : Int), k ≤ K ∧ i = .int .i64 k ∧ v = .int .i64 u ∧ u ≤ 1024 ∧ IsLeast (bothOn on oo) (64 * k) u ∧ BmAt wr b wb cap n (mg on oo n k) ∧ Kp [b, wb] w wr) (fun _ i _ => K - (intOf i).toNat)
  case atStart => exact ⟨0, -1, by omega, rfl, rfl, by omega, .inl ⟨rfl, fun i hi => by omega⟩, HM0.out, HK0.out⟩
  case round =>
    obtain ⟨k, u, hk, rfl, rfl, hu, hle, hm, hkr⟩ := hrel
    by_cases hlt : k < K
    · have c0 := hm.c0
      have c1 := hm.c1
      have c2 := hm.c2
      rw [HNW.out] at c2
      have f1 := hm.f 1
      have f2 := hm.wf k
      obtain ⟨x, cx, hx⟩ := hm.wordk (k := k) (by have := HNW.out; omega)
      obtain ⟨o2, ho3⟩ := HO.out.at_ hm hkr
      rw [HMW.out] at o2
      obtain ⟨y, cy, hy⟩ := ho3 k (by have := HMW.out; omega)
      replace hx : WordOk x k on := word_congr hx (mg_word k)
      have hcl := hm.cntle
      obtain ⟨many, hmany⟩ : ∃ many, cnt (mg on oo n k) n = many := ⟨_, rfl⟩
      rw [hmany] at c1 hcl
      have hlt1 : (k : Int) < (l : Int) + 1 := by omega
      have hlt2 : (k : Int) < (mw : Int) := by omega
      have HX := hide hx
      have HY := hide hy
      have HLE := hide hle
      have HM := hide hm
      have HKR := hide hkr
      have HMANY := hide hmany
      clear hx hy hle hm hkr hmany
      clear ho3
      have hn2 : l ≤ 15 := by have := HNW.out; omega
      by_cases t1 : k = l
      · subst t1
        by_cases t2 : n % 64 = 0
        · have d2 : ((n : Int) % 64 != 0) = false := by simp; omega
          have hz : WordOk y k (cap2 n oo) := word_whole HY.out (by have := HNW.out; omega) (.inr t2)
          have E1 : bits .and .u64 (x : Int) (y : Int) = ((x &&& y : Nat) : Int) := u64_and_nat x y HX.out.1 hz.1
          have hp := word_and HX.out hz
          generalize x &&& y = p at E1 hp
          have E2 : bits .andNot .u64 (y : Int) (x : Int) = ((y &&& (18446744073709551615 - x) : Nat) : Int) := u64_andNot_nat y x hz.1 HX.out.1
          have hdl : y &&& (18446744073709551615 - x) < 18446744073709551616 := Nat.lt_of_le_of_lt Nat.and_le_left hz.1
          have E3 : bits .or .u64 (x : Int) (y : Int) = ((x ||| y : Nat) : Int) := u64_or_nat x y HX.out.1 hz.1
          have hmg : ∀ m : Int, m = (many : Int) + (pop (y &&& (18446744073709551615 - x)) : Int) → ∀ q, BmAt (((wr.drewN q).setCell ⟨b, 1, none⟩ (.int .i64 m)).setCell ⟨wb, k, none⟩ (.int .u64 ((x ||| y : Nat) : Int))) b wb cap n (mg on oo n (k + 1)) := fun m em q => (HM.out.drewN q).merge (by have := HNW.out; omega) HX.out hz (by rw [em, HMANY.out])
          generalize y &&& (18446744073709551615 - x) = d at E2 hdl hmg
          have hpl := pop_le d
          generalize x ||| y = r at E3 hmg
          have hT := HT.out.keep HKR.out (by simp; omega)
          replace hp : WordOk p k (bothOn on oo) := word_congr hp fun i _ => by
            simp only [bothOn, cap2]
            cases ho : on i with
            | false => rfl
            | true => rw [show decide (i < n) = true by simp; exact Nat.lt_of_not_le fun hi => by rw [H.out.off i hi] at ho; cases ho]; simp
          have HP := hide hp
          have HZ := hide hz
          have HMG := hide hmg
          have HTR := hide hT
          clear hp hz hmg hT
          have hpw := HP.out.1
          by_cases p0 : p = 0
          · have q0 : ((p : Int) != 0) = false := by simp; omega
            have hl2 : IsLeast (bothOn on oo) (64 * (k + 1)) u := HLE.out.more (by omega) fun i h1 h2 => (word_ne HP.out).1 p0 i (by omega)
            have HL2 := hide hl2
            clear hl2
            clear p0
            go_wp2_with fail
            go_still_tail 20, (by kernel_rfl)
            still_call (ones_still d hdl _)
            repeat still_step
            refine wpStill_nil ?_
            change wpList _ _ _ _ _ (World.drew _)
            go_wp2_with fail
            go_roundw
            case rel => exact ⟨k + 1, _, by omega, by go_num, rfl, by omega, HL2.out, HMG.out _ (by omega) 1, (((HKR.out.drewN 1).set (by simp) _).set (by simp) _)⟩
            case measure => simp [intOf]; omega
          · have q0 : ((p : Int) != 0) = true := by simp; omega
            by_cases u0 : u < 0
            · have hc := (ctz_low p p0 HP.out.1).1
              have hl2 := least_word HP.out p0 (HLE.out.none u0).2
              have htz := tz64_any p HP.out.1 wr HTR.out
              generalize Lib.ctz 64 p = c at hc hl2 htz
              have HL2 := hide hl2
              have HTZ := hide htz
              clear hl2 htz
              clear p0
              go_wp2_with fail
              refine HTZ.out.mono ?_
              rintro e w1 ⟨rfl, rfl⟩
              go_wp2_with fail
              go_still_tail 20, (by kernel_rfl)
              still_call (ones_still d hdl _)
              repeat still_step
              refine wpStill_nil ?_
              change wpList _ _ _ _ _ (World.drew _)
              go_wp2_with fail
              go_roundw
              case rel => exact ⟨k + 1, _, by omega, by go_num, rfl, by omega, HL2.out, HMG.out _ (by omega) 1, (((HKR.out.drewN 1).set (by simp) _).set (by simp) _)⟩
              case measure => simp [intOf]; omega
            · have hl2 : IsLeast (bothOn on oo) (64 * (k + 1)) u := HLE.out.kept (by omega) (by omega)
              have HL2 := hide hl2
              clear hl2
              clear p0
              go_wp2_with fail
              go_still_tail 20, (by kernel_rfl)
              still_call (ones_still d hdl _)
              repeat still_step
              refine wpStill_nil ?_
              change wpList _ _ _ _ _ (World.drew _)
              go_wp2_with fail
              go_roundw
              case rel => exact ⟨k + 1, _, by omega, by go_num, rfl, by omega, HL2.out, HMG.out _ (by omega) 1, (((HKR.out.drewN 1).set (by simp) _).set (by simp) _)⟩
              case measure => simp [intOf]; omega
        · have d2 : ((n : Int) % 64 != 0) = true := by simp; omega
          have hz : WordOk (y &&& (2 ^ (n % 64) - 1)) k (cap2 n oo) := word_mask HY.out HNW.out.symm t2
          have E0 : bits .and .u64 (y : Int) (IntKind.u64.wrap (IntKind.u64.wrap (2 ^ (n % 64)) - 1)) = ((y &&& (2 ^ (n % 64) - 1) : Nat) : Int) := mask_eq y (n % 64) HY.out.1 (Nat.mod_lt _ (by omega))
          generalize y &&& (2 ^ (n % 64) - 1) = z at hz E0
          have E1 : bits .and .u64 (x : Int) (z : Int) = ((x &&& z : Nat) : Int) := u64_and_nat x z HX.out.1 hz.1
          have hp := word_and HX.out hz
          generalize x &&& z = p at E1 hp
          have E2 : bits .andNot .u64 (z : Int) (x : Int) = ((z &&& (18446744073709551615 - x) : Nat) : Int) := u64_andNot_nat z x hz.1 HX.out.1
          have hdl : z &&& (18446744073709551615 - x) < 18446744073709551616 := Nat.lt_of_le_of_lt Nat.and_le_left hz.1
          have E3 : bits .or .u64 (x : Int) (z : Int) = ((x ||| z : Nat) : Int) := u64_or_nat x z HX.out.1 hz.1
          have hmg : ∀ m : Int, m = (many : Int) + (pop (z &&& (18446744073709551615 - x)) : Int) → ∀ q, BmAt (((wr.drewN q).setCell ⟨b, 1, none⟩ (.int .i64 m)).setCell ⟨wb, k, none⟩ (.int .u64 ((x ||| z : Nat) : Int))) b wb cap n (mg on oo n (k + 1)) := fun m em q => (HM.out.drewN q).merge (by have := HNW.out; omega) HX.out hz (by rw [em, HMANY.out])
          generalize z &&& (18446744073709551615 - x) = d at E2 hdl hmg
          have hpl := pop_le d
          generalize x ||| z = r at E3 hmg
          have hT := HT.out.keep HKR.out (by simp; omega)
          replace hp : WordOk p k (bothOn on oo) := word_congr hp fun i _ => by
            simp only [bothOn, cap2]
            cases ho : on i with
            | false => rfl
            | true => rw [show decide (i < n) = true by simp; exact Nat.lt_of_not_le fun hi => by rw [H.out.off i hi] at ho; cases ho]; simp
          have HP := hide hp
          have HZ := hide hz
          have HMG := hide hmg
          have HTR := hide hT
          clear hp hz hmg hT
          have hpw := HP.out.1
          by_cases p0 : p = 0
          · have q0 : ((p : Int) != 0) = false := by simp; omega
            have hl2 : IsLeast (bothOn on oo) (64 * (k + 1)) u := HLE.out.more (by omega) fun i h1 h2 => (word_ne HP.out).1 p0 i (by omega)
            have HL2 := hide hl2
            clear hl2
            clear p0
            go_wp2_with fail
            go_still_tail 20, (by kernel_rfl)
            still_call (ones_still d hdl _)
            repeat still_step
            refine wpStill_nil ?_
            change wpList _ _ _ _ _ (World.drew _)
            go_wp2_with fail
            go_roundw
            case rel => exact ⟨k + 1, _, by omega, by go_num, rfl, by omega, HL2.out, HMG.out _ (by omega) 1, (((HKR.out.drewN 1).set (by simp) _).set (by simp) _)⟩
            case measure => simp [intOf]; omega
          · have q0 : ((p : Int) != 0) = true := by simp; omega
            by_cases u0 : u < 0
            · have hc := (ctz_low p p0 HP.out.1).1
              have hl2 := least_word HP.out p0 (HLE.out.none u0).2
              have htz := tz64_any p HP.out.1 wr HTR.out
              generalize Lib.ctz 64 p = c at hc hl2 htz
              have HL2 := hide hl2
              have HTZ := hide htz
              clear hl2 htz
              clear p0
              go_wp2_with fail
              refine HTZ.out.mono ?_
              rintro e w1 ⟨rfl, rfl⟩
              go_wp2_with fail
              go_still_tail 20, (by kernel_rfl)
              still_call (ones_still d hdl _)
              repeat still_step
              refine wpStill_nil ?_
              change wpList _ _ _ _ _ (World.drew _)
              go_wp2_with fail
              go_roundw
              case rel => exact ⟨k + 1, _, by omega, by go_num, rfl, by omega, HL2.out, HMG.out _ (by omega) 1, (((HKR.out.drewN 1).set (by simp) _).set (by simp) _)⟩
              case measure => simp [intOf]; omega
            · have hl2 : IsLeast (bothOn on oo) (64 * (k + 1)) u := HLE.out.kept (by omega) (by omega)
              have HL2 := hide hl2
              clear hl2
              clear p0
              go_wp2_with fail
              go_still_tail 20, (by kernel_rfl)
              still_call (ones_still d hdl _)
              repeat still_step
              refine wpStill_nil ?_
              change wpList _ _ _ _ _ (World.drew _)
              go_wp2_with fail
              go_roundw
              case rel => exact ⟨k + 1, _, by omega, by go_num, rfl, by omega, HL2.out, HMG.out _ (by omega) 1, (((HKR.out.drewN 1).set (by simp) _).set (by simp) _)⟩
              case measure => simp [intOf]; omega
      · have d1 : ((k : Int) == (l : Int)) = false := by simp; omega
        have hz : WordOk y k (cap2 n oo) := word_whole HY.out (by have := HNW.out; omega) (.inl (by have := HNW.out; omega))
        have E1 : bits .and .u64 (x : Int) (y : Int) = ((x &&& y : Nat) : Int) := u64_and_nat x y HX.out.1 hz.1
        have hp := word_and HX.out hz
        generalize x &&& y = p at E1 hp
        have E2 : bits .andNot .u64 (y : Int) (x : Int) = ((y &&& (18446744073709551615 - x) : Nat) : Int) := u64_andNot_nat y x hz.1 HX.out.1
        have hdl : y &&& (18446744073709551615 - x) < 18446744073709551616 := Nat.lt_of_le_of_lt Nat.and_le_left hz.1
        have E3 : bits .or .u64 (x : Int) (y : Int) = ((x ||| y : Nat) : Int) := u64_or_nat x y HX.out.1 hz.1
        have hmg : ∀ m : Int, m = (many : Int) + (pop (y &&& (18446744073709551615 - x)) : Int) → ∀ q, BmAt (((wr.drewN q).setCell ⟨b, 1, none⟩ (.int .i64 m)).setCell ⟨wb, k, none⟩ (.int .u64 ((x ||| y : Nat) : Int))) b wb cap n (mg on oo n (k + 1)) := fun m em q => (HM.out.drewN q).merge (by have := HNW.out; omega) HX.out hz (by rw [em, HMANY.out])
        generalize y &&& (18446744073709551615 - x) = d at E2 hdl hmg
        have hpl := pop_le d
        generalize x ||| y = r at E3 hmg
        have hT := HT.out.keep HKR.out (by simp; omega)
        replace hp : WordOk p k (bothOn on oo) := word_congr hp fun i _ => by
          simp only [bothOn, cap2]
          cases ho : on i with
          | false => rfl
          | true => rw [show decide (i < n) = true by simp; exact Nat.lt_of_not_le fun hi => by rw [H.out.off i hi] at ho; cases ho]; simp
        have HP := hide hp
        have HZ := hide hz
        have HMG := hide hmg
        have HTR := hide hT
        clear hp hz hmg hT
        have hpw := HP.out.1
        by_cases p0 : p = 0
        · have q0 : ((p : Int) != 0) = false := by simp; omega
          have hl2 : IsLeast (bothOn on oo) (64 * (k + 1)) u := HLE.out.more (by omega) fun i h1 h2 => (word_ne HP.out).1 p0 i (by omega)
          have HL2 := hide hl2
          clear hl2
          clear p0
          go_wp2_with fail
          go_still_tail 20, (by kernel_rfl)
          still_call (ones_still d hdl _)
          repeat still_step
          refine wpStill_nil ?_
          change wpList _ _ _ _ _ (World.drew _)
          go_wp2_with fail
          go_roundw
          case rel => exact ⟨k + 1, _, by omega, by go_num, rfl, by omega, HL2.out, HMG.out _ (by omega) 1, (((HKR.out.drewN 1).set (by simp) _).set (by simp) _)⟩
          case measure => simp [intOf]; omega
        · have q0 : ((p : Int) != 0) = true := by simp; omega
          by_cases u0 : u < 0
          · have hc := (ctz_low p p0 HP.out.1).1
            have hl2 := least_word HP.out p0 (HLE.out.none u0).2
            have htz := tz64_any p HP.out.1 wr HTR.out
            generalize Lib.ctz 64 p = c at hc hl2 htz
            have HL2 := hide hl2
            have HTZ := hide htz
            clear hl2 htz
            clear p0
            go_wp2_with fail
            refine HTZ.out.mono ?_
            rintro e w1 ⟨rfl, rfl⟩
            go_wp2_with fail
            go_still_tail 20, (by kernel_rfl)
            still_call (ones_still d hdl _)
            repeat still_step
            refine wpStill_nil ?_
            change wpList _ _ _ _ _ (World.drew _)
            go_wp2_with fail
            go_roundw
            case rel => exact ⟨k + 1, _, by omega, by go_num, rfl, by omega, HL2.out, HMG.out _ (by omega) 1, (((HKR.out.drewN 1).set (by simp) _).set (by simp) _)⟩
            case measure => simp [intOf]; omega
          · have hl2 : IsLeast (bothOn on oo) (64 * (k + 1)) u := HLE.out.kept (by omega) (by omega)
            have HL2 := hide hl2
            clear hl2
            clear p0
            go_wp2_with fail
            go_still_tail 20, (by kernel_rfl)
            still_call (ones_still d hdl _)
            repeat still_step
            refine wpStill_nil ?_
            change wpList _ _ _ _ _ (World.drew _)
            go_wp2_with fail
            go_roundw
            case rel => exact ⟨k + 1, _, by omega, by go_num, rfl, by omega, HL2.out, HMG.out _ (by omega) 1, (((HKR.out.drewN 1).set (by simp) _).set (by simp) _)⟩
            case measure => simp [intOf]; omega
    · have hkk : k = K := by omega
      subst hkk
      have hres : Merged w b wb cap n on oo (.returned (.int .i64 u)) wr := by
        have hoff := (HO.out.nle H.out).2
        have e1 : 64 * k < n → no ≤ 64 * k := fun hh => by have := HNW.out; have := HMW.out; omega
        have hall : ∀ i, 64 * k ≤ i → on i = false ∨ oo i = false := fun i hi => by
          by_cases e : n ≤ i
          · exact .inl (H.out.off i e)
          · exact .inr (hoff i (by have := e1 (by omega); omega))
        have hall2 : ∀ i, 64 * k ≤ i → bothOn on oo i = false := fun i hi => by
          simp only [bothOn]
          rcases hall i hi with h | h <;> simp [h]
        refine ⟨u, rfl, ?_, ?_, hkr⟩
        · by_cases e : 64 * k ≤ n
          · exact hle.more e fun i h1 _ => hall2 i h1
          · exact hle.less (by omega) fun i hi => by simp only [bothOn]; rw [H.out.off i hi]; rfl
        · have : (fun i => on i || cap2 n oo i) = mg on oo n k := by
            funext i
            simp only [mg, cap2]
            by_cases e : i < 64 * k
            · rw [show decide (i < 64 * k) = true by simpa using e]; simp [Bool.and_comm]
            · rw [show decide (i < 64 * k) = false by simpa using e]
              by_cases e2 : n ≤ i
              · rw [show decide (i < n) = false by simp; omega]; simp
              · rw [hoff i (by have := e1 (by omega); omega)]; simp
          rw [this]; exact hm
      have HRES := hide hres
      clear hres
      clear hm hkr hle
      go_wp2_with fail
      rw [HQ.out]
      exact HRES.out
end
end Go.Proofs.YtoghdhjeopcjkaaDoor
