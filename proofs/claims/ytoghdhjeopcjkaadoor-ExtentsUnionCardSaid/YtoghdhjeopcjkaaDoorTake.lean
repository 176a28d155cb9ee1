
/- The walk of Pool.Take. Conditions: the pool lies in memory (PoolAt). -/
import Derived.Test.YtoghdhjeopcjkaaDoorTakeP
import Derived.Test.YtoghdhjeopcjkaaDoorNew
import Derived.Test.YtoghdhjeopcjkaaDoorApp
import Derived.Deep.RegionHeld3
namespace Go.Proofs.YtoghdhjeopcjkaaDoor
open Go.RowKit

/-- What one span more leaves. -/
theorem take_next {on : Nat → Bool} {n j m c f t : Nat} {PP : Nat → List Nat} (hm : m = n - (PP j).length) (hm1 : ¬ m = 0)
    (hst : (PP j).length < n → PP (j + 1) = PP j ++ List.range' f (min c (n - (PP j).length))) (ht : t = min c m) (ht1 : 1 ≤ t) :
    m - t = n - (PP (j + 1)).length ∧ spansOf (PP (j + 1)) = joinSpan (spansOf (PP j)) f t ∧ minus on (PP (j + 1)) = subTo (minus on (PP j)) f t := by
  have h1 := hst (by omega)
  rw [← hm, ← ht] at h1
  rw [h1]
  refine ⟨by rw [List.length_append, List.length_range']; omega, spansOf_range _ _ _ ht1, minus_range _ _ _ _⟩

section
variable {w : World} {b wb cap : Nat} {on : Nat → Bool} {S : Sh}

theorem pTake_range (h : PoolAt w b wb cap S on) (c n : Int) (hc : c < 0 ∨ (S.cores : Int) ≤ c ∨ n < 0) :
    Calls Tryd.prog 19 #[.pointer (some ⟨b, 0, none⟩), .int .i64 c, .int .i64 n] w fun e w' => e = .returned (.tuple #[.slice none 0 0, .int .i64 52]) ∧ w' = w := by
  have H := hide h
  cases hr : (decide ((0 : Int) ≤ c) && decide (c < (S.cores : Int))) with
  | false =>
    have HR := hide hr
    clear h hc hr
    go_enter Tryd.func19, Tryd.ntmps19
    go_wp2_with (go_at_call 35; refine (isCore_any H.out _).mono ?_; rw [HR.out]; rintro e w' ⟨rfl, rfl⟩)
    go_ret2
    exact ⟨rfl, rfl⟩
  | true =>
    have hn : n < 0 := by simp at hr; omega
    have HR := hide hr
    clear h hc hr
    go_enter Tryd.func19, Tryd.ntmps19
    go_wp2_with (go_at_call 35; refine (isCore_any H.out _).mono ?_; rw [HR.out]; rintro e w' ⟨rfl, rfl⟩)
    go_ret2
    exact ⟨rfl, rfl⟩

theorem pTake_full (h : PoolAt w b wb cap S on) (c n : Int) (hc1 : 0 ≤ c) (hc2 : c < S.cores) (hn0 : 0 ≤ n) (hn : (cnt on S.pages : Int) < n) :
    Calls Tryd.prog 19 #[.pointer (some ⟨b, 0, none⟩), .int .i64 c, .int .i64 n] w fun e w' => e = .returned (.tuple #[.slice none 0 0, .int .i64 50]) ∧ w' = w := by
  have H := hide h
  have hr : (decide ((0 : Int) ≤ c) && decide (c < (S.cores : Int))) = true := by simp; omega
  have c1 := h.m.c1
  have HR := hide hr
  clear h hr
  go_enter Tryd.func19, Tryd.ntmps19
  go_wp2_with (go_at_call 35; refine (isCore_any H.out _).mono ?_; rw [HR.out]; rintro e w' ⟨rfl, rfl⟩)
  go_ret2
  exact ⟨rfl, rfl⟩

set_option maxHeartbeats 4000000 in
set_option maxRecDepth 100000 in
theorem pTake_ok (h : PoolAt w b wb cap S on) (c n : Int) (c' n' : Nat) (hcc : c = c') (hnn : n = n') (hc : c' < S.cores) (hn : n' ≤ cnt on S.pages) :
    Calls Tryd.prog 19 #[.pointer (some ⟨b, 0, none⟩), .int .i64 c, .int .i64 n] w fun e w' => ∃ v, e = .returned (.tuple #[v, .int .i64 0]) ∧
      Own w' w.heap.size v (spansOf ((order S on c').take n')) ∧ PoolAt w' b wb cap S (minus on ((order S on c').take n')) ∧ Kp [b, wb] w w' := by
  subst hcc; subst hnn
  have hr : (decide ((0 : Int) ≤ (c' : Int)) && decide ((c' : Int) < (S.cores : Int))) = true := by simp; omega
  have kmn := run_mn
  have dn : decide ((n' : Int) < 0) = false := by simp
  have dn2 : decide (cnt on S.pages < n') = false := by simp; omega
  have c1 := h.m.c1
  have c5 := h.c5
  have hcl := h.m.cntle
  have ok := h.ok
  have o1 := ok.c2; have o2 := ok.d2; have o3 := ok.p2; have o4 := ok.c1
  have hbl := h.m.lt
  have hwl := h.m.wlt
  have hne := h.m.ne
  have OK := hide ok
  have H := hide h
  have HR := hide hr
  clear h hr ok
  go_enter Tryd.func19, Tryd.ntmps19
  go_wp2_with (go_at_call 35; refine (isCore_any H.out _).mono ?_; rw [HR.out]; rintro e w' ⟨rfl, rfl⟩)
  go_loopw [2, 8, 35] (fun n l i wr => ∃ k m : Nat, k ≤ S.cores ∧ i = .int .i64 k ∧ n = .int .i64 m ∧ m = n' - ((doneTo S on c' k).take n').length ∧
      Own wr w.heap.size l (spansOf ((doneTo S on c' k).take n')) ∧ PoolAt wr b wb cap S (minus on ((doneTo S on c' k).take n')) ∧ Kp [b, wb] w wr) (fun _ _ i _ => S.cores - (intOf i).toNat)
  case atStart => exact ⟨0, n', by omega, rfl, rfl, by simp [doneTo], by rw [show (doneTo S on c' 0).take n' = [] from by simp [doneTo]]; exact Own.nil _ _, by have := H.out; rw [show (doneTo S on c' 0).take n' = [] from by simp [doneTo], minus_nil]; exact this, Kp.refl _ _⟩
  case round =>
    obtain ⟨wo, rfl⟩ : ∃ wo : World, wo = wr := ⟨_, rfl⟩
    obtain ⟨k, m, hk, rfl, rfl, hm, hown, hpool, hkp⟩ := hrel
    by_cases hlt : k < S.cores
    · have ho5 := hpool.c5
      have hob := hpool.m.lt
      have how := hpool.m.wlt
      have ha : (c' + k) % S.cores < S.cores := Nat.mod_lt _ (by omega)
      have hcast : ((c' : Int) + (k : Int)) % (S.cores : Int) = (((c' + k) % S.cores : Nat) : Int) := by simp
      obtain ⟨a, haa⟩ : ∃ a, (c' + k) % S.cores = a := ⟨_, rfl⟩
      rw [haa] at ha hcast
      have hlm := Sh.lo_lt OK.out a
      have hlb := Sh.lo_bd OK.out (a + 1) (by omega)
      obtain ⟨F, hF⟩ : ∃ F, S.lo a = F := ⟨_, rfl⟩
      obtain ⟨C, hC⟩ : ∃ C, S.lo (a + 1) = F + C := ⟨S.lo (a + 1) - F, by omega⟩
      rw [hF] at hlm
      rw [hC] at hlm hlb
      have hsame := area_same (S := S) (on := on) (core := c') (n := n') hlt
      rw [haa] at hsame
      have hruns := runs_area S (minus on ((doneTo S on c' k).take n')) a
      rw [hsame, hF, hC] at hruns
      have hown2 := hown.lt
      have HM := hide hm
      have HOWN := hide hown
      have HPOOL := hide hpool
      have HKP := hide hkp
      have HAA := hide haa
      have HF := hide hF
      have HC := hide hC
      have HRUNS := hide hruns
      have HOL := hide hown2
      clear hm hown hpool hkp haa hF hC hruns hown2
      clear hsame
      go_wp2_with (go_at_call 36; refine (pArea_as HPOOL.out _ a F C (by first | exact hcast | rfl) ha HF.out HC.out).mono ?_; rintro e w3 ⟨rfl, hk3⟩)
      have HK3 := hide hk3
      have ew : IntKind.i64.wrap ((F : Int) + (C : Int)) = ((F + C : Nat) : Int) := by rw [IntKind.wrap_i64]; omega
      clear hk3
      have hz := blk_new w3 (.cells #[.int .i64 F, .int .i64 C] 63)
      have hzz := blk2 hz
      obtain ⟨L, hL⟩ : ∃ L, L = spansOf (areaPg S on a) := ⟨_, rfl⟩
      have hr2 : runs (minus on ((doneTo S on c' k).take n')) F (F + C) = L := by rw [HRUNS.out, hL]
      obtain ⟨PP, hPP⟩ := plan S on c' n' k a L hlt HAA.out hL
      have HR2 := hide hr2
      have HL := hide hL
      have HZ := hide hz
      have HPP := hide hPP
      clear hr2 hL hz hPP
      go_region_held3 (fun w' => w'.cell? ⟨w3.heap.size, 0, none⟩ = some (.int .i64 F) ∧ w'.cell? ⟨w3.heap.size, 1, none⟩ = some (.int .i64 C))
        (first | exact ⟨y0, y1⟩ | exact hzz)
        (first
          | (go_at_call 33; refine (mspans_sl ((HPOOL.out.m.keep HK3.out (by simp) (by simp)).keep (((Kp.refl [] _).alloc _).drew) (by simp) (by simp)) _ _ F (F + C) (by omega) (by omega) (by omega) (by omega) L HR2.out).mono ?_; rintro e w4 ⟨ga, gc, rfl, hown4, hk4⟩; have hy := blk2 (hk4.blk HZ.out (by simp)); obtain ⟨y0, y1⟩ := hy))
      have hFd : S.data ≤ F := by have := Sh.lo_mono (S := S) 0 a (by omega); rw [Sh.lo_zero, HF.out] at this; exact this
      have HOWN4 := hide hown4
      have HK4 := hide hk4
      have HGB := hide hown4.lt
      have hs34 : w3.heap.size + 1 ≤ w4.heap.size := by have := hk4.size; simpa using this
      have hs03 := HK3.out.size
      clear hown4 hk4 hzz
      go_wp2
      go_loopw [2, 8, 61] (fun n l i wr => ∃ j m : Nat, j ≤ L.length ∧ i = .int .i64 j ∧ n = .int .i64 m ∧ m = n' - (PP j).length ∧ Own wr w.heap.size l (spansOf (PP j)) ∧
          PoolAt wr b wb cap S (minus on (PP j)) ∧ Kp [b, wb] w wr ∧ Own wr w3.heap.size (.slice ga L.length gc) L ∧ w4.heap.size ≤ wr.heap.size ∧ (∀ x, l.ownBlock = some x → x < w3.heap.size ∨ w4.heap.size ≤ x)) (fun _ _ i _ => L.length - (intOf i).toNat)
      case atStart =>
        have k34 : Kp [] wo w4 := HK3.out.trans' (((Kp.refl [] w3).alloc _).trans' (((Kp.refl [] _).drew).trans' HK4.out))
        have hst := HPP.out.start
        refine ⟨0, m, by omega, rfl, rfl, by rw [hst]; exact HM.out, by rw [hst]; exact HOWN.out.keep k34 (by simp), by rw [hst]; exact HPOOL.out.keep k34 (by simp) (by simp), HKP.out.trans k34 (by simp), HOWN4.out.low (by simp), Nat.le_refl _, fun x hx => .inl ?_⟩
        have := HOL.out x hx; omega
      case round =>
        obtain ⟨wi, rfl⟩ : ∃ wi : World, wi = wr := ⟨_, rfl⟩
        obtain ⟨j, m2, hj, rfl, rfl, hm2, hown2, hpool2, hkp2, hownL, hsz, hlb2⟩ := hrel
        by_cases hjl : j < L.length
        · rcases hownL.cases with ⟨_, hLn⟩ | ⟨g, cp, hval, hg1, hg2, hg3, hg4⟩
          · subst hLn; simp at hjl
          simp only [Value.slice.injEq, true_and] at hval
          obtain ⟨hga, hgc⟩ := hval
          subst hga
          subst hgc
          unfold maxLen at hg4
          obtain ⟨l0, l1⟩ := hownL.cell rfl j hjl
          have hpos := HPP.out.pos j hjl
          have hpage := HPP.out.page j hjl
          rw [HF.out, HC.out] at hpage
          have hstep := HPP.out.step j hjl
          generalize hf : fr L j = f at l0 hpos hpage hstep
          generalize hc9 : ct L j = c at l1 hpos hpage hstep
          obtain ⟨f, rfl⟩ := Int.eq_ofNat_of_zero_le hpos.1
          obtain ⟨c, rfl⟩ := Int.eq_ofNat_of_zero_le (show 0 ≤ c by omega)
          have hc1 : 1 ≤ c := by omega
          simp only [Int.toNat_natCast] at hpage hstep
          have hfc : f + c ≤ F + C := by
            have h1 := hpage (f + c - 1) (by rw [List.mem_range'_1]; omega)
            omega
          have hfF : F ≤ f := (hpage f (by rw [List.mem_range'_1]; omega)).2.1
          have hob2 := hpool2.m.lt
          have how2 := hpool2.m.wlt
          have HM2 := hide hm2
          have HOWN2 := hide hown2
          have HPOOL2 := hide hpool2
          have HKP2 := hide hkp2
          have HOWNL := hide hownL
          have HLB2 := hide hlb2
          have HPG := hide hpage
          have HST := hide hstep
          clear hm2 hown2 hpool2 hkp2 hownL hlb2 hpage hstep
          clear hf hc9 hpos
          by_cases hm0 : m2 = 0
          · subst hm0
            go_wp2
            go_ret2
            have hfull := HPP.out.stop j (by omega) (by have := HM2.out; have := HPP.out.len j; omega)
            rw [hfull]
            exact ⟨_, rfl, HOWN2.out.keep ((Kp.refl [] _).alloc _) (by simp), HPOOL2.out.keep ((Kp.refl [] _).alloc _) (by simp) (by simp), HKP2.out.alloc _⟩
          have hm1 : ((m2 : Int) == 0) = false := by rw [beq_eq_false_iff_ne]; omega
          have hmn := mn_le (c : Int) (m2 : Int)
          obtain ⟨q, hq⟩ : ∃ q : Nat, mn (c : Int) (m2 : Int) = (q : Int) := ⟨(mn (c : Int) (m2 : Int)).toNat, by omega⟩
          have hq1 : 1 ≤ q := by omega
          have hqc : q ≤ c := by omega
          have hqm : q ≤ m2 := by omega
          have hqmin : Hid (q = min c m2) := by show q = min c m2; omega
          have hm2b : m2 ≤ 1024 := by have := HM2.out; omega
          have HM0 := hide hm0
          clear hmn hm0
          go_wp2
          go_loopw [79] (fun i wr => ∃ t : Nat, t ≤ q ∧ i = .int .i64 t ∧ PoolAt wr b wb cap S (subTo (minus on (PP j)) f t) ∧ Kp [b, wb] (wi.alloc (.cells #[.int .i64 f, .int .i64 q] 63)) wr) (fun i _ => q - (intOf i).toNat)
          case atStart => exact ⟨0, by omega, rfl, by rw [subTo_zero]; exact HPOOL2.out.keep ((Kp.refl [] _).alloc _) (by simp) (by simp), Kp.refl _ _⟩
          case round =>
            obtain ⟨wt, rfl⟩ : ∃ wt : World, wt = wr := ⟨_, rfl⟩
            obtain ⟨t, ht, rfl, hp5, hk5⟩ := hrel
            have hxb := hk5.blk (blk_new _ _) (by simp; omega)
            have hxc := blk2 hxb
            obtain ⟨x0, x1⟩ := hxc
            by_cases htq : t < q
            · have ew2 : IntKind.i64.wrap ((f : Int) + (t : Int)) = ((f + t : Nat) : Int) := by rw [IntKind.wrap_i64]; omega
              have hon5 : subTo (minus on (PP j)) f t (f + t) = true := by simp [subTo, (HPG.out (f + t) (by rw [List.mem_range'_1]; omega)).1]
              have HP5 := hide hp5
              have HK5 := hide hk5
              have HO5 := hide hon5
              clear hp5 hk5 hon5
              clear hxb
              go_wp2
              refine wp_region_still_tail 7 (by kernel_rfl) (by kernel_rfl) ?_
              simp only [List.take_succ_cons, List.take_zero, List.drop_succ_cons, List.drop_zero]
              change wpStill _ _ (World.drew _) _ _ _
              repeat (refine wpStill_step (fun K hK => ?_); go_simp; refine hK _ ?_; clear hK K)
              refine wpStill_nil ?_
              change wpList _ _ _ _ _ (World.drewN _ 1)
              go_wp2_with (go_at_call 37; refine (mclear_any (HP5.out.m.drewN 1) (f + t) (by omega) HO5.out).mono ?_; rintro e w5 ⟨rfl, hm5, hk6⟩)
              go_roundw
              case rel =>
                have hm6 := HP5.out.turn hm5 (by omega)
                rw [subTo_succ] at hm6
                exact ⟨t + 1, by omega, by go_num, hm6, HK5.out.trans' ((Kp.refl _ _).drewN 1 |>.trans' hk6)⟩
              case measure => simp [intOf]; omega
            · have htq : t = q := by omega
              subst htq
              have hk7 : Kp [b, wb] wi wt := ((Kp.refl [] wi).alloc _).mono (by simp) |>.trans' hk5
              have hownA := HOWN2.out.keep hk7 (fun x hx => by have := HLB2.out x hx; have := HOWN2.out.lt x hx; have := HK3.out.size; simp; omega)
              have hownLA := HOWNL.out.keep hk7 (fun x hx => by have := HOWNL.out.lt x hx; have := HK3.out.size; simp; omega)
              have hNX := take_next (on := on) HM2.out HM0.out HST.out hqmin.out hq1
              have hszt : wi.heap.size + 1 ≤ wt.heap.size := by have := hk5.size; simpa using this
              have hRB : ∀ y, (y = b ∨ y = wb ∨ False) → y ∉ (Value.ownBlock u8).toList := fun y hy hx => by
                simp at hx
                have h1 := HOWN2.out.lt y hx
                rcases hy with h | h | h
                · subst h; omega
                · subst h; omega
                · exact h
              have hRL : ∀ y, (Value.slice (some ⟨g, 0, none⟩) L.length gc).ownBlock = some y → y ∉ (Value.ownBlock u8).toList := fun y hy hx => by
                simp at hx
                have h1 := HLB2.out y hx
                have h2 := HGB.out y hy
                simp at h2
                omega
              have hRW : ∀ y ∈ (Value.ownBlock u8).toList, y ∈ [b, wb] ∨ w.heap.size ≤ y := fun y hy => by
                simp at hy
                exact .inr (HOWN2.out.lt y hy).1
              have hka := HKP2.out.trans' hk7
              have hws := hka.size
              have hal : ∀ r f' c'', spansOf (PP j) = r ++ [(f', c'')] → 0 ≤ f' ∧ 1 ≤ c'' ∧ f' + c'' ≤ 1024 := by
                intro r f' c'' he
                have h1 := spansOf_last he
                have h2 := HPP.out.mem j _ h1.2.2
                have h3 : ¬ S.pages ≤ (f' + c'' - 1).toNat := fun h4 => by have h5 := HPOOL.out.m.off _ h4; have h6 := H.out.m.off _ h4; rw [h2] at h6; cases h6
                omega
              have hlenj : (spansOf (PP j)).length ≤ 1024 := by have := spansOf_length (PP j); have := HPP.out.len j; omega
              have HNX1 := hide hNX.1
              have HNX2 := hide hNX.2.1
              have HNX3 := hide hNX.2.2
              have HRB := hide hRB
              have HRL := hide hRL
              have HRW := hide hRW
              have HKA := hide hka
              have HLA := hide hownLA
              have HP6 := hide hp5
              have HAL := hide hal
              clear hRB hRL hRW hka hownLA hp5 hal
              clear hNX hxb hk5 hk7 l0 l1
              generalize hR : spansOf (PP j) = R at hownA hlenj HAL HNX2
              rcases hownA.cases with ⟨hv, hnil⟩ | ⟨gl, cpl, hv, hgl1, hgl2, hgl3, hgl4⟩
              · subst hnil
                subst hv
                have HO := hide hownA
                clear hownA
                go_wp2
                go_quiet (fail)
                go_wp2_with (at_builtin; refine app_span2 rfl _ _ rfl w.heap.size (.slice none 0 0) [] rfl (HO.out.keep (((Kp.refl [] _).drewN _).alloc _) (by simp)) _ (f : Int) (t : Int) _ rfl (blk_new _ _) (by simp) (by simp; omega) ?_; intro v' w6 hown6 hgr hwh)
                go_roundw
                case rel =>
                  have k6 := (((Kp.refl (Value.ownBlock (.slice none 0 0)).toList wt).drewN _).alloc _).grown hgr (fun x hx => .inl (by rw [hx]; simp))
                  refine ⟨j + 1, m2 - t, by omega, by go_num, by go_num, HNX1.out, by rw [HNX2.out]; rw [joinSpan_nil]; exact hown6, by rw [HNX3.out]; exact HP6.out.keep k6 (HRB.out _ (.inl rfl)) (HRB.out _ (.inr (.inl rfl))), HKA.out.trans k6 HRW.out, HLA.out.keep k6 HRL.out, by have := k6.size; omega, fun x hx => ?_⟩
                  rcases hwh with h | h
                  · rw [h] at hx; exact HLB2.out x hx
                  · rw [h] at hx; simp at hx; omega
                case measure => simp [intOf]; omega
              · rcases List.eq_nil_or_concat R with rfl | ⟨r, ⟨f', c''⟩, rfl⟩
                · simp only [List.length_nil] at hv
                  subst hv
                  have HO := hide hownA
                  clear hownA
                  go_wp2
                  go_quiet (fail)
                  go_wp2_with (at_builtin; refine app_span2 rfl _ _ rfl w.heap.size (.slice (some ⟨gl, 0, none⟩) 0 cpl) [] rfl (HO.out.keep (((Kp.refl [] _).drewN _).alloc _) (by simp)) _ (f : Int) (t : Int) _ rfl (blk_new _ _) (by simp) (by simp; omega) ?_; intro v' w6 hown6 hgr hwh)
                  go_roundw
                  case rel =>
                    have k6 := (((Kp.refl (Value.ownBlock (.slice (some ⟨gl, 0, none⟩) 0 cpl)).toList wt).drewN _).alloc _).grown hgr (fun x hx => .inl (by rw [hx]; simp))
                    refine ⟨j + 1, m2 - t, by omega, by go_num, by go_num, HNX1.out, by rw [HNX2.out]; rw [joinSpan_nil]; exact hown6, by rw [HNX3.out]; exact HP6.out.keep k6 (HRB.out _ (.inl rfl)) (HRB.out _ (.inr (.inl rfl))), HKA.out.trans k6 HRW.out, HLA.out.keep k6 HRL.out, by have := k6.size; omega, fun x hx => ?_⟩
                    rcases hwh with h | h
                    · rw [h] at hx; exact HLB2.out x hx
                    · rw [h] at hx; simp at hx; omega
                  case measure => simp [intOf]; omega
                · rw [List.concat_eq_append] at *
                  obtain ⟨hb1, hb2, hb3⟩ := HAL.out r f' c'' rfl
                  have hlr : (r ++ [(f', c'')]).length = r.length + 1 := by simp
                  rw [hlr] at hv hgl3 hlenj
                  subst hv
                  have hcell := hownA.cell (by simp) r.length (by simp)
                  rw [fr_last, ct_last] at hcell
                  obtain ⟨d1, d2⟩ := hcell
                  have hfz := hownA.free (r.length * 2 + 1)
                  have hglx : gl ≠ wi.heap.size := by
                    have h1 := HOWN2.out.lt gl rfl
                    omega
                  by_cases he : f' + c'' = (f : Int)
                  · have heq : (f' + c'' == (f : Int)) = true := by simpa using he
                    have HE := hide he
                    have HO := hide hownA
                    clear he hownA
                    go_wp2
                    go_quiet (fail)
                    go_wp2
                    go_region
                    go_wp2
                    go_roundw
                    case rel =>
                      have k6 : ∀ nn, Kp [gl] wt ((wt.drewN nn).setCell ⟨gl, r.length * 2 + 1, none⟩ (.int .i64 (c'' + (t : Int)))) := fun nn => ((Kp.refl [gl] wt).drewN nn).set (.inl (by simp)) _
                      refine ⟨j + 1, m2 - t, by omega, by go_num, by go_num, HNX1.out, ?_, by rw [HNX3.out]; exact HP6.out.keep (k6 _) (HRB.out _ (.inl rfl)) (HRB.out _ (.inr (.inl rfl))), HKA.out.trans (k6 _) HRW.out, HLA.out.keep (k6 _) HRL.out, by have := (k6 0).size; simp at this ⊢; omega, HLB2.out⟩
                      rw [HNX2.out, joinSpan_join _ _ _ _ _ HE.out]
                      exact (HO.out.keep ((Kp.refl [] _).drewN _) (by simp)).raise rfl rfl
                    case measure => simp [intOf]; omega
                  · have heq : (f' + c'' == (f : Int)) = false := by simpa using he
                    have HE := hide he
                    clear he
                    have HO := hide hownA
                    clear hownA
                    go_wp2
                    go_quiet (fail)
                    go_wp2_with (at_builtin; refine app_span2 rfl _ _ rfl w.heap.size (.slice (some ⟨gl, 0, none⟩) (r.length + 1) cpl) (r ++ [(f', c'')]) rfl (HO.out.keep (((Kp.refl [] _).drewN _).alloc _) (by simp)) _ (f : Int) (t : Int) _ rfl (blk_new _ _) (by rw [hlr]; omega) (by simp; omega) ?_; intro v' w6 hown6 hgr hwh)
                    go_roundw
                    case rel =>
                      have k6 := (((Kp.refl (Value.ownBlock (.slice (some ⟨gl, 0, none⟩) (r.length + 1) cpl)).toList wt).drewN _).alloc _).grown hgr (fun x hx => .inl (by rw [hx]; simp))
                      refine ⟨j + 1, m2 - t, by omega, by go_num, by go_num, HNX1.out, by rw [HNX2.out]; rw [joinSpan_far _ _ _ _ _ HE.out]; exact hown6, by rw [HNX3.out]; exact HP6.out.keep k6 (HRB.out _ (.inl rfl)) (HRB.out _ (.inr (.inl rfl))), HKA.out.trans k6 HRW.out, HLA.out.keep k6 HRL.out, by have := k6.size; omega, fun x hx => ?_⟩
                      rcases hwh with h | h
                      · rw [h] at hx; exact HLB2.out x hx
                      · rw [h] at hx; simp at hx; omega
                    case measure => simp [intOf]; omega
        · have hjl : j = L.length := by omega
          subst hjl
          go_wp2
          go_roundw
          case rel => exact ⟨k + 1, m2, by omega, by go_num, rfl, by rw [← HPP.out.done]; exact hm2, by rw [← HPP.out.done]; exact hown2, by rw [← HPP.out.done]; exact hpool2, hkp2⟩
          case measure => simp [intOf]; omega
    · have hkc : k = S.cores := by omega
      subst hkc
      go_wp2
      go_ret2
      exact ⟨_, rfl, hown, hpool, hkp⟩
end
end Go.Proofs.YtoghdhjeopcjkaaDoor
