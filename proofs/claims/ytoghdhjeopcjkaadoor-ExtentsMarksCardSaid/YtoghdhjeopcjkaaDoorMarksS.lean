
/- The walk of a step of bitmaps. Conditions: a play; a step of the script. -/
import Derived.Test.YtoghdhjeopcjkaaDoorPlayM
namespace Go.Proofs.YtoghdhjeopcjkaaDoor
open Go.RowKit Go.Deep

section
variable {w : World} {base pb : Nat} {st : Nat → Option MSlot}
theorem MStepped.first {w0 w1 : World} {e : Ending} (h : MStepped base pb w1 e w0) (k : Kp [] w w1) : MStepped base pb w e w0 := by
  obtain ⟨h1, st', h2, h3⟩ := h
  exact ⟨h1, st', h2, (k.q.mono (by simp)).trans h3⟩
set_option maxHeartbeats 2000000 in
set_option maxRecDepth 100000 in
theorem marks_new (h : MPlayAt w base pb st) (kind a b n m s0 s1 s2 s3 : Int) (pg sp : Value) (hk : kind = 1) (ha : I64 a) (hb : I64 b) (hbase : base ≤ w.heap.size) :
    Calls Tryd.prog 6 #[.pointer (some ⟨pb, 0, none⟩), .agg #[.int .i64 kind, .int .i64 a, .int .i64 b, .int .i64 n, .int .i64 m, pg, sp, .int .i64 s0, .int .i64 s1, .int .i64 s2, .int .i64 s3]] w (MStepped base pb w) := by
  obtain ⟨Q, hQ⟩ : ∃ Q, Q = MStepped base pb w := ⟨_, rfl⟩
  rw [← hQ]
  have k1 : (kind == 1) = true := by simpa using hk
  obtain ⟨ja, hja, ea⟩ := slot_of a ha
  obtain ⟨jb, hjb, eb⟩ := slot_of b hb
  have hlt := h.lt
  have hja1 : (0 : Int) ≤ (ja : Int) := by omega
  have hja2 : (ja : Int) < 4 := by omega
  obtain ⟨N, hN⟩ : ∃ N : Nat, mn (mx n 0) 1024 = (N : Int) := ⟨(mn (mx n 0) 1024).toNat, by have := mn_le (mx n 0) 1024; have := mx_le n 0; omega⟩
  have H := hide h
  have HQ := hide hQ
  have HK := hide hk
  have HA := hide ha
  have HB := hide hb
  have HN := hide hN
  clear h hQ hk ha hb hN
  go_enter Tryd.func6, Tryd.ntmps6
  go_wp2_with fail
  have hka : Kp [] w (w.alloc (.cells #[.int .i64 kind, .int .i64 a, .int .i64 b, .int .i64 n, .int .i64 m, pg, sp, .int .i64 s0, .int .i64 s1, .int .i64 s2, .int .i64 s3] 40)) := (Kp.refl _ _).alloc _
  have hba : (w.alloc (.cells #[.int .i64 kind, .int .i64 a, .int .i64 b, .int .i64 n, .int .i64 m, pg, sp, .int .i64 s0, .int .i64 s1, .int .i64 s2, .int .i64 s3] 40)).heap[w.heap.size]? = some (.cells #[.int .i64 kind, .int .i64 a, .int .i64 b, .int .i64 n, .int .i64 m, pg, sp, .int .i64 s0, .int .i64 s1, .int .i64 s2, .int .i64 s3] 40 (0, 0)) := blk_new _ _
  generalize w.alloc (.cells #[.int .i64 kind, .int .i64 a, .int .i64 b, .int .i64 n, .int .i64 m, pg, sp, .int .i64 s0, .int .i64 s1, .int .i64 s2, .int .i64 s3] 40) = wa at hka hba ⊢
  have hz3 := blk_cell hba 3
  have hz4 := blk_cell hba 4
  simp only [List.getElem?_toArray, List.getElem?_cons_succ, List.getElem?_cons_zero] at hz3 hz4
  have hp1 := H.out.keep0 hka
  have hf1 := hp1.f
  have hi1 := hp1.cx hja
  have hl1 := hp1.lt
  have hsa := hka.size
  have hpbw : pb ≠ w.heap.size := by omega
  have HP1 := hide hp1
  have HKA := hide hka
  have HBA := hide hba
  clear hp1 hka hba
  clear hz4
  go_region_with (first
      | (go_at_call 8; refine (newBitmap_any n N HN.out _).mono ?_; rintro e w2 ⟨b2, wb2, cap2, rfl, hb2, hwb2, hbm2, hk2⟩; have hf2 := (HP1.out.keep0 ((Kp.refl [] _).drew.trans' hk2)).f; have hx2 := (HP1.out.keep0 ((Kp.refl [] _).drew.trans' hk2)).cx hja))
  change wa.heap.size ≤ b2 at hb2
  change wa.heap.size ≤ wb2 at hwb2
  have hka2 := (Kp.refl [] wa).drew.trans' hk2
  have hs2 := hka2.size
  have hb2l := hbm2.lt
  have hw2l := hbm2.wlt
  have hbn := hbm2.ne
  have hk3 : Kp [pb] w (w2.setCell ⟨pb, ja, none⟩ (.pointer (some ⟨b2, 0, none⟩))) := ((HKA.out.trans' hka2).mono (by simp)).set (by simp) _
  have hbl3 : ∀ c, w.heap[pb]? = some (.cells c 34 (0, 0)) → (w2.setCell ⟨pb, ja, none⟩ (.pointer (some ⟨b2, 0, none⟩))).heap[pb]? = some (.cells (c.setIfInBounds ja (.pointer (some ⟨b2, 0, none⟩))) 34 (0, 0)) := fun c hc => blk_set ((HKA.out.trans' hka2).blk hc (by simp)) _
  have hm3 : BmAt (w2.setCell ⟨pb, ja, none⟩ (.pointer (some ⟨b2, 0, none⟩))) b2 wb2 cap2 N (fun _ => false) := hbm2.keep ((Kp.refl [pb] w2).set (by simp) _) (by simp; omega) (by simp; omega)
  have hz3' : (w2.setCell ⟨pb, ja, none⟩ (.pointer (some ⟨b2, 0, none⟩))).cell? ⟨w.heap.size, 3, none⟩ = some (.int .i64 n) := by
    rw [blk_cell (blk_set_ne (hka2.blk HBA.out (by simp)) (by simp; omega) _)]; rfl
  have hs3' : (w2.setCell ⟨pb, ja, none⟩ (.pointer (some ⟨b2, 0, none⟩))).heap.size = w2.heap.size := by simp [World.setCell]
  generalize w2.setCell ⟨pb, ja, none⟩ (.pointer (some ⟨b2, 0, none⟩)) = w3 at hk3 hbl3 hm3 hz3' hs3' ⊢
  obtain ⟨c, hc, hcs, hcc⟩ := H.out.row
  have hb3 := hbl3 c hc
  have hy3 : w3.cell? ⟨pb, 4 + ja, none⟩ = some (ptrR (st ja)) := by
    rw [blk_cell hb3, Array.getElem?_setIfInBounds, if_neg (by omega), (hcc ja hja).2]
  have hf3 := blk_free hb3
  have hl3 := blk_lt hb3
  have hsw := HKA.out.size
  have hC := hide hc
  have HK3 := hide hk3
  have HB3 := hide hb3
  have HM3 := hide hm3
  have HCC := hide hcc
  clear hk3 hb3 hm3 hcc
  clear hz3 hf1 hi1 hl1 hf2 hx2 hbl3 hka2 hk2 hbm2 hc
  go_wp2_with fail
  go_region_with (first
      | (go_at_call 21; refine (rbNew_any n N HN.out _).mono ?_; rintro e w4 ⟨rb4, ra4, rc4, rfl, hrb4, hr4, hk4⟩; have hf4 := blk_free (((Kp.refl [] _).drew.trans' hk4).blk HB3.out (by simp)); have hl4 := blk_lt (((Kp.refl [] _).drew.trans' hk4).blk HB3.out (by simp)); have hx4 := ((Kp.refl [] _).drew.trans' hk4).cell hy3 (by simp)))
  change w3.heap.size ≤ rb4 at hrb4
  change RbAt w4 w3.heap.size rb4 ra4 rc4 N (fun _ => false) at hr4
  have hk34 := (Kp.refl [] w3).drew.trans' hk4
  have hs4 := hk34.size
  have hrl := hr4.lt
  have hrow := hr4.row.lt
  have hk5 : Kp [pb] w (w4.setCell ⟨pb, 4 + ja, none⟩ (.pointer (some ⟨rb4, 0, none⟩))) := (HK3.out.trans' (hk34.mono (by simp))).set (by simp) _
  have hb5 : (w4.setCell ⟨pb, 4 + ja, none⟩ (.pointer (some ⟨rb4, 0, none⟩))).heap[pb]? = some (.cells ((c.setIfInBounds ja (.pointer (some ⟨b2, 0, none⟩))).setIfInBounds (4 + ja) (.pointer (some ⟨rb4, 0, none⟩))) 34 (0, 0)) := blk_set (hk34.blk HB3.out (by simp)) _
  have hm5 : BmAt (w4.setCell ⟨pb, 4 + ja, none⟩ (.pointer (some ⟨rb4, 0, none⟩))) b2 wb2 cap2 N (fun _ => false) := (HM3.out.keep hk34 (by simp) (by simp)).keep ((Kp.refl [pb] w4).set (by simp) _) (by simp; omega) (by simp; omega)
  have hr5 : RbAt (w4.setCell ⟨pb, 4 + ja, none⟩ (.pointer (some ⟨rb4, 0, none⟩))) w3.heap.size rb4 ra4 rc4 N (fun _ => false) := hr4.keep ((Kp.refl [pb] w4).set (by simp) _) (by simp; omega) (fun g hg => by have := hrow g hg; simp; omega)
  generalize w4.setCell ⟨pb, 4 + ja, none⟩ (.pointer (some ⟨rb4, 0, none⟩)) = w5 at hk5 hb5 hm5 hr5 ⊢
  have hx5 : w5.cell? ⟨pb, ja, none⟩ = some (.pointer (some ⟨b2, 0, none⟩)) := by
    rw [blk_cell hb5, Array.getElem?_setIfInBounds, if_neg (by omega), Array.getElem?_setIfInBounds, if_pos rfl, if_pos (by omega)]
  have hplay : MPlayAt w5 base pb (fun i => if i = ja then some ⟨b2, wb2, cap2, rb4, ra4, rc4, N, fun _ => false⟩ else st i) := by
    refine H.out.put2 hja (s := ⟨b2, wb2, cap2, rb4, ra4, rc4, N, fun _ => false⟩) hk5 (fun c' hc' => ?_) ⟨hm5, hr5.low (by omega), ?_, ?_, fun g hg => ?_, fun x hx => ?_⟩ (fun x hx => ?_)
    · have e := hc'.symm.trans hC.out
      simp only [Option.some.injEq, Obj.cells.injEq, and_true] at e
      rw [e]; exact hb5
    · show b2 ≠ rb4; omega
    · show wb2 ≠ rb4; omega
    · have := hrow g hg; show g ≠ b2 ∧ g ≠ wb2; omega
    · have hp := H.out.lo
      rcases hx with hx | hx | hx | hx
      · change x = b2 at hx; omega
      · change x = wb2 at hx; omega
      · change x = rb4 at hx; omega
      · have := hrow x hx; omega
    · rcases hx with hx | hx | hx | hx
      · change x = b2 at hx; omega
      · change x = wb2 at hx; omega
      · change x = rb4 at hx; omega
      · have := hrow x hx; omega
  have hp0 := H.out.lo
  have hres : MStepped base pb w (.returned (.bool true)) w5 := ⟨rfl, _, hplay, hk5.q.mono (by simp; omega)⟩
  have HRES := hide hres
  clear hres
  clear hk5 hb5 hm5 hr5 hplay hr4 hk4 hk34 hf4 hx4 hy3 hf3 hz3' hrow
  go_wp2_with fail
  rw [HQ.out]
  exact HRES.out

def SetsX (s : MSlot) (i : Int) (code : Bool) (on' : Nat → Bool) : Prop :=
  (∀ w, BmAt w s.b s.wb s.cap s.n s.on → Calls Tryd.prog 9 #[.pointer (some ⟨s.b, 0, none⟩), .int .i64 i] w fun e w' => e = .returned (.bool code) ∧ BmAt w' s.b s.wb s.cap s.n on' ∧ Kp [s.b, s.wb] w w') ∧
  (∀ w base, RbAt w base s.rb s.ra s.rc s.n s.on → Calls Tryd.prog 22 #[.pointer (some ⟨s.rb, 0, none⟩), .int .i64 i] w fun e w' => e = .returned (.bool code) ∧ RbAt w' base s.rb s.ra s.rc s.n on' ∧ Kp (blks s.ra) w w')
theorem sets (s : MSlot) (i : Int) : ∃ code on', SetsX s i code on' := by
  by_cases h : i < 0 ∨ (s.n : Int) ≤ i ∨ s.on i.toNat = true
  · refine ⟨false, s.on, fun w hw => (bmSet_no hw i h).mono ?_, fun w base hw => (rbSet_no hw i h).mono ?_⟩
    · rintro e w1 ⟨rfl, k, rfl⟩
      exact ⟨rfl, hw.drewN k, (Kp.refl _ _).drewN k⟩
    · rintro e w1 ⟨rfl, rfl⟩
      exact ⟨rfl, hw, Kp.refl _ _⟩
  · obtain ⟨j, rfl⟩ := Int.eq_ofNat_of_zero_le (show 0 ≤ i by omega)
    have hj : j < s.n := by omega
    have ho : s.on j = false := by
      cases e : s.on j with
      | false => rfl
      | true => exact absurd (.inr (.inr (by simpa using e))) h
    refine ⟨true, put s.on j true, fun w hw => (bmSet_put hw _ j rfl hj false ho).mono ?_, fun w base hw => (rbSet_on hw j hj ho).mono ?_⟩
    · rintro e w1 ⟨rfl, h1, h2⟩
      exact ⟨rfl, h1, h2⟩
    · rintro e w1 ⟨rfl, g, hg, h1, h2⟩
      refine ⟨rfl, h1, h2.mono ?_⟩
      intro x hx
      simp at hx
      simp [blks, hg, hx]
theorem blks_own {s : MSlot} {x : Nat} (h : x ∈ blks s.ra) : s.v.ownBlock = some x := by
  cases ha : s.ra with
  | none => simp [blks, ha] at h
  | some a => simp [blks, ha] at h; simp [MSlot.v, ha, Value.ownBlock, h]
theorem mstep_fin {wa w' : World} (h : MPlayAt wa base pb st) {j : Nat} (hj : j < 4) {s : MSlot} (hs : st j = some s) {on' : Nat → Bool} (k : Kq s.own wa w') (hm : BmAt w' s.b s.wb s.cap s.n on') (hr : RbAt w' base s.rb s.ra s.rc s.n on') : MStepped base pb wa (.returned (.bool true)) w' :=
  ⟨rfl, _, h.step (s' := { s with on := on' }) hj hs k ⟨rfl, rfl, rfl, rfl⟩ hm hr, k.mono fun x hx => ((h.ok j hj s hs).lo x hx).1⟩
theorem mstep_a {wa w1 w2 : World} (h : MPlayAt wa base pb st) {j : Nat} (hj : j < 4) {s : MSlot} (hs : st j = some s) {on' : Nat → Bool} (q1 : ∀ x, x ∈ [s.b, s.wb] → s.own x) (q2 : ∀ x, x ∈ blks s.ra → s.own x) (q3 : s.b ∉ blks s.ra ∧ s.wb ∉ blks s.ra ∧ s.rb ∉ [s.b, s.wb]) (_ : ∀ g, (Value.slice s.ra s.n s.rc).ownBlock = some g → g ∉ [s.b, s.wb])
    (hm : BmAt w1 s.b s.wb s.cap s.n on') (hk1 : Kp [s.b, s.wb] wa.drew w1) (hr : RbAt w2 base s.rb s.ra s.rc s.n on') (hk2 : Kp (blks s.ra) w1 w2) : MStepped base pb wa (.returned (.bool true)) w2 :=
  mstep_fin h hj hs ((((Kp.refl _ wa).drew.trans' hk1).q.mono q1).trans (hk2.q.mono q2)) (hm.keep hk2 q3.1 q3.2.1) hr
theorem mstep_b {wa w1 w2 : World} (h : MPlayAt wa base pb st) {j : Nat} (hj : j < 4) {s : MSlot} (hs : st j = some s) {on' : Nat → Bool} (q1 : ∀ x, x ∈ [s.b, s.wb] → s.own x) (q2 : ∀ x, x ∈ blks s.ra → s.own x) (q3 : s.b ∉ blks s.ra ∧ s.wb ∉ blks s.ra ∧ s.rb ∉ [s.b, s.wb]) (q4 : ∀ g, (Value.slice s.ra s.n s.rc).ownBlock = some g → g ∉ [s.b, s.wb])
    (hm : BmAt w1 s.b s.wb s.cap s.n on') (hk1 : Kp [s.b, s.wb] w2 w1) (hr : RbAt w2 base s.rb s.ra s.rc s.n on') (hk2 : Kp (blks s.ra) wa.drew w2) : MStepped base pb wa (.returned (.bool true)) w1 :=
  mstep_fin h hj hs ((((Kp.refl _ wa).drew.trans' hk2).q.mono q2).trans (hk1.q.mono q1)) hm (hr.keep hk1 q3.2.2 q4)
set_option maxHeartbeats 4000000 in
set_option maxRecDepth 100000 in
theorem marks_set (h : MPlayAt w base pb st) (kind a b n m s0 s1 s2 s3 : Int) (pg sp : Value) (hk : kind = 2) (ha : I64 a) (hb : I64 b) {s : MSlot} {ja : Nat} (hja : ja < 4) (ea : bits .and .i64 a 3 = (ja : Int)) (hst : st ja = some s) :
    Calls Tryd.prog 6 #[.pointer (some ⟨pb, 0, none⟩), .agg #[.int .i64 kind, .int .i64 a, .int .i64 b, .int .i64 n, .int .i64 m, pg, sp, .int .i64 s0, .int .i64 s1, .int .i64 s2, .int .i64 s3]] w (MStepped base pb w) := by
  obtain ⟨Q, hQ⟩ : ∃ Q, Q = MStepped base pb w := ⟨_, rfl⟩
  rw [← hQ]
  have k1 : (kind == 1) = false := by simp; omega
  have k2 : (kind == 2) = true := by simp; omega
  have hlt := h.lt
  have hpb : pb ≠ w.heap.size := by omega
  have hcy := h.cy hja
  have hcx := h.cx hja
  rw [hst] at hcy hcx
  simp only [ptrM, ptrR, Option.map_some] at hcy hcx
  have hja1 : (0 : Int) ≤ (ja : Int) := by omega
  have hja2 : (ja : Int) < 4 := by omega
  obtain ⟨jb, hjb, eb⟩ := slot_of b hb
  obtain ⟨code, on', hsx1, hsx2⟩ := sets s n
  have H := hide h
  have HQ := hide hQ
  have HK := hide hk
  have HA := hide ha
  have HB := hide hb
  have HST := hide hst
  have HS1 := hide hsx1
  have HS2 := hide hsx2
  clear h hQ hk ha hb hst hsx1 hsx2
  go_enter Tryd.func6, Tryd.ntmps6
  go_wp2_with fail
  have hka : Kp [] w (w.alloc (.cells #[.int .i64 kind, .int .i64 a, .int .i64 b, .int .i64 n, .int .i64 m, pg, sp, .int .i64 s0, .int .i64 s1, .int .i64 s2, .int .i64 s3] 40)) := (Kp.refl _ _).alloc _
  have hba : (w.alloc (.cells #[.int .i64 kind, .int .i64 a, .int .i64 b, .int .i64 n, .int .i64 m, pg, sp, .int .i64 s0, .int .i64 s1, .int .i64 s2, .int .i64 s3] 40)).heap[w.heap.size]? = some (.cells #[.int .i64 kind, .int .i64 a, .int .i64 b, .int .i64 n, .int .i64 m, pg, sp, .int .i64 s0, .int .i64 s1, .int .i64 s2, .int .i64 s3] 40 (0, 0)) := blk_new _ _
  generalize w.alloc (.cells #[.int .i64 kind, .int .i64 a, .int .i64 b, .int .i64 n, .int .i64 m, pg, sp, .int .i64 s0, .int .i64 s1, .int .i64 s2, .int .i64 s3] 40) = wa at hka hba ⊢
  have hz3 := blk_cell hba 3
  have hz4 := blk_cell hba 4
  simp only [List.getElem?_toArray, List.getElem?_cons_succ, List.getElem?_cons_zero] at hz3 hz4
  have hp1 := H.out.keep0 hka
  have hok := hp1.ok ja hja s HST.out
  have hsa := hka.size
  have hq1 : ∀ x, x ∈ [s.b, s.wb] → s.own x := fun x hx => by simp at hx; rcases hx with rfl | rfl; exact .inl rfl; exact .inr (.inl rfl)
  have hq2 : ∀ x, x ∈ blks s.ra → s.own x := fun x hx => .inr (.inr (.inr (blks_own hx)))
  have hq3 : s.b ∉ blks s.ra ∧ s.wb ∉ blks s.ra ∧ s.rb ∉ [s.b, s.wb] := ⟨fun hx => (hok.n3 _ (blks_own hx)).1 rfl, fun hx => (hok.n3 _ (blks_own hx)).2 rfl, by have := hok.n1; have := hok.n2; simp; omega⟩
  have hq4 : ∀ g, (Value.slice s.ra s.n s.rc).ownBlock = some g → g ∉ [s.b, s.wb] := fun g hg => by have := hok.n3 g hg; simp; omega
  have hz3f : ∀ x, s.own x → x ≠ w.heap.size := fun x hx => by have := (H.out.ok ja hja s HST.out).lt x hx; omega
  have hz3b : w.heap.size ∉ [s.b, s.wb] ∧ w.heap.size ∉ blks s.ra := ⟨fun hx => hz3f _ (hq1 _ hx) rfl, fun hx => hz3f _ (hq2 _ hx) rfl⟩
  have HP1 := hide hp1
  have HKA := hide hka
  have HOK := hide hok
  have HBA := hide hba
  have HQ1 := hide hq1
  have HQ2 := hide hq2
  have HQ3 := hide hq3
  have HQ4 := hide hq4
  have HZ := hide hz3b
  clear hp1 hka hok hba hq1 hq2 hq3 hq4 hz3b
  clear hz3f
  have hc1 : ∀ w', Kp (blks s.ra) wa w' → Calls Tryd.prog 9 #[.pointer (some ⟨s.b, 0, none⟩), .int .i64 n] w' fun e w'' => e = .returned (.bool code) ∧ BmAt w'' s.b s.wb s.cap s.n on' ∧ Kp [s.b, s.wb] w' w'' := fun w' k => HS1.out w' (HOK.out.m.keep k HQ3.out.1 HQ3.out.2.1)
  have hc2 : ∀ w', Kp [s.b, s.wb] wa w' → Calls Tryd.prog 22 #[.pointer (some ⟨s.rb, 0, none⟩), .int .i64 n] w' fun e w'' => e = .returned (.bool code) ∧ RbAt w'' base s.rb s.ra s.rc s.n on' ∧ Kp (blks s.ra) w' w'' := fun w' k => HS2.out w' base (HOK.out.r.keep k HQ3.out.2.2 HQ4.out)
  have HC1 := hide hc1
  have HC2 := hide hc2
  clear hc1 hc2
  clear hz4 hcx hcy
  go_region_held3 (fun w' => w'.cell? ⟨w.heap.size, 3, none⟩ = some (.int .i64 n))
    (first | exact z2 | exact z1 | exact hz3)
    (first
      | (go_at_call 9; refine (HC1.out _ (by first | exact ((Kp.refl _ wa).drew.trans' hk2) | exact (Kp.refl _ wa).drew)).mono ?_; rintro e w1 ⟨rfl, hm1, hk1⟩; have z1 := hk1.cell (a := ⟨w.heap.size, 3, none⟩) (by first | exact z2 | exact hz3) HZ.out.1)
      | (go_at_call 22; refine (HC2.out _ (by first | exact ((Kp.refl _ wa).drew.trans' hk1) | exact (Kp.refl _ wa).drew)).mono ?_; rintro e w2 ⟨rfl, hr2, hk2⟩; have z2 := hk2.cell (a := ⟨w.heap.size, 3, none⟩) (by first | exact z1 | exact hz3) HZ.out.2))
  all_goals
    first
      | have HRES := hide (mstep_a HP1.out hja HST.out HQ1.out HQ2.out HQ3.out HQ4.out hm1 hk1 hr2 hk2)
      | have HRES := hide (mstep_b HP1.out hja HST.out HQ1.out HQ2.out HQ3.out HQ4.out hm1 hk1 hr2 hk2)
    clear hm1 hk1 hr2 hk2 hz3
    go_wp2_with fail
    rw [HQ.out]
    exact HRES.out.first HKA.out
end
end Go.Proofs.YtoghdhjeopcjkaaDoor
