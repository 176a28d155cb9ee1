/- The walk of makes. Conditions: a play; a step of the script that is read. -/
import Derived.Test.YtoghdhjeopcjkaaPlayI
namespace Go.Proofs.Ytoghdhjeopcjkaa
open Go.RowKit Go.Deep

section
variable {w : World} {base pb : Nat} {st : Nat → Option Slot}
/-- What a step of the play leaves. -/
def Stepped (base pb : Nat) (w : World) (e : Ending) (w' : World) : Prop := e = .returned (.bool true) ∧ ∃ st', PlayAt w' base pb st' ∧ Kq (fun x => base ≤ x) w w'
theorem slot_of (x : Int) (h : I64 x) : ∃ j : Nat, j < 4 ∧ bits .and .i64 x 3 = (j : Int) := ⟨(x % 4).toNat, by omega, by rw [and3 h]; omega⟩

set_option maxHeartbeats 2000000 in
set_option maxRecDepth 100000 in
theorem makes_copy (h : PlayAt w base pb st) (kind a b n m s0 s1 s2 s3 : Int) (pg sp : Value) (hk : kind = 19) (ha : I64 a) (hb : I64 b) :
    Calls Try.prog 57 #[.pointer (some ⟨pb, 0, none⟩), .agg #[.int .i64 kind, .int .i64 a, .int .i64 b, .int .i64 n, .int .i64 m, pg, sp, .int .i64 s0, .int .i64 s1, .int .i64 s2, .int .i64 s3]] w (Stepped base pb w) := by
  have k19 : (kind == 19) = true := by simpa using hk
  obtain ⟨ja, hja, ea⟩ := slot_of a ha
  obtain ⟨jb, hjb, eb⟩ := slot_of b hb
  obtain ⟨Q, hQ⟩ : ∃ Q, Q = Stepped base pb w := ⟨_, rfl⟩
  rw [← hQ]
  have H := hide h
  have HQ := hide hQ
  have HK := hide hk
  have HA := hide ha
  have HB := hide hb
  clear h hQ hk ha hb
  have hlt := H.out.lt
  have hpb : pb ≠ w.heap.size := by omega
  have hcy := H.out.cy hja
  have hcx := H.out.cx hja
  have hcyb := H.out.cy hjb
  have hcxb := H.out.cx hjb
  cases hst : st ja with
  | none =>
    rw [hst] at hcy hcx
    simp only [ptrX, ptrY, Option.map_none] at hcy hcx
    cases hst2 : st jb with
    | none =>
      rw [hst2] at hcyb hcxb
      simp only [ptrX, ptrY, Option.map_none] at hcyb hcxb
      have HST := hide hst
      have HST2 := hide hst2
      clear hst hst2
      go_enter Try.func57, Try.ntmps57
      go_wp2_with fail
      rw [HQ.out]
      exact ⟨rfl, st, H.out.keep0 ((Kp.refl _ _).alloc _), (((Kp.refl [] _).alloc _).q).mono (by simp)⟩
    | some t =>
      rw [hst2] at hcyb hcxb
      simp only [ptrX, ptrY, Option.map_some] at hcyb hcxb
      have HST := hide hst
      have HST2 := hide hst2
      clear hst hst2
      go_enter Try.func57, Try.ntmps57
      go_wp2_with fail
      rw [HQ.out]
      exact ⟨rfl, st, H.out.keep0 ((Kp.refl _ _).alloc _), (((Kp.refl [] _).alloc _).q).mono (by simp)⟩
  | some s =>
    rw [hst] at hcy hcx
    simp only [ptrX, ptrY, Option.map_some] at hcy hcx
    have HST := hide hst
    clear hst
    go_enter Try.func57, Try.ntmps57
    go_wp2_with fail
    have hka : Kp [] w (w.alloc (.cells #[.int .i64 kind, .int .i64 a, .int .i64 b, .int .i64 n, .int .i64 m, pg, sp, .int .i64 s0, .int .i64 s1, .int .i64 s2, .int .i64 s3] 85)) := (Kp.refl _ _).alloc _
    generalize w.alloc (.cells #[.int .i64 kind, .int .i64 a, .int .i64 b, .int .i64 n, .int .i64 m, pg, sp, .int .i64 s0, .int .i64 s1, .int .i64 s2, .int .i64 s3] 85) = wa at hka ⊢
    have hp1 := H.out.keep0 hka
    have hcx1 : wa.cell? ⟨pb, 8 + ja, none⟩ = some (.pointer (some ⟨s.b, 0, none⟩)) := hka.cell hcx (by simp)
    have ht1 := (hp1.ok ja hja s HST.out).tw
    have hl1 := hp1.lt
    have hf1 := hp1.f
    have hi1 := (hp1.cx hjb)
    have hja1 : (0 : Int) ≤ (ja : Int) := by omega
    have hja2 : (ja : Int) < 4 := by omega
    have hjb1 : (0 : Int) ≤ (jb : Int) := by omega
    have hjb2 : (jb : Int) < 4 := by omega
    have HP1 := hide hp1
    have HT1 := hide ht1
    have HKA := hide hka
    clear hp1 ht1 hka
    clear hcx hcy hcyb hcxb
    go_region_with (first
        | (go_at_call 39; refine (pCopy_any (HT1.out.keep0 ((Kp.refl [] _).drew)).pool).mono ?_; rintro e w2 ⟨b2, wb2, cap2, rfl, hb2, hwb2, hpo2, hk2⟩; have hf2 := (HP1.out.keep0 ((Kp.refl [] _).drew.trans' hk2)).f; have hx2 := (HP1.out.keep0 ((Kp.refl [] _).drew.trans' hk2)).cx hjb))
    change wa.heap.size ≤ b2 at hb2
    change wa.heap.size ≤ wb2 at hwb2
    have hs2 := (HKA.out.trans' ((Kp.refl [] _).drew.trans' hk2)).size
    have hsa := HKA.out.size
    have hb2l := hpo2.m.lt
    have hw2l := hpo2.m.wlt
    have hk3 : Kp [pb] w (w2.setCell ⟨pb, 8 + jb, none⟩ (.pointer (some ⟨b2, 0, none⟩))) := ((HKA.out.trans' ((Kp.refl [] _).drew.trans' hk2)).mono (by simp)).set (by simp) _
    have hbl3 : ∀ c, w.heap[pb]? = some (.cells c 83 (0, 0)) → (w2.setCell ⟨pb, 8 + jb, none⟩ (.pointer (some ⟨b2, 0, none⟩))).heap[pb]? = some (.cells (c.setIfInBounds (8 + jb) (.pointer (some ⟨b2, 0, none⟩))) 83 (0, 0)) := fun c hc => blk_set ((HKA.out.trans' ((Kp.refl [] _).drew.trans' hk2)).blk hc (by simp)) _
    have hpo3 : PoolAt (w2.setCell ⟨pb, 8 + jb, none⟩ (.pointer (some ⟨b2, 0, none⟩))) b2 wb2 cap2 s.S s.on := hpo2.keep ((Kp.refl [pb] w2).set (by simp) _) (by simp; omega) (by simp; omega)
    generalize w2.setCell ⟨pb, 8 + jb, none⟩ (.pointer (some ⟨b2, 0, none⟩)) = w3 at hk3 hbl3 hpo3 ⊢
    obtain ⟨c, hc, hcs, hcc⟩ := H.out.row
    have hb3 := hbl3 c hc
    have hy3 : w3.cell? ⟨pb, 12 + ja, none⟩ = some (.pointer (some ⟨s.rb, 0, none⟩)) := by
      rw [blk_cell hb3, Array.getElem?_setIfInBounds, if_neg (by omega), (hcc ja hja).2, HST.out]; rfl
    have hy3b : w3.cell? ⟨pb, 12 + jb, none⟩ = some (ptrY (st jb)) := by
      rw [blk_cell hb3, Array.getElem?_setIfInBounds, if_neg (by omega), (hcc jb hjb).2]
    have hs3 := hk3.size
    have hf3 := blk_free hb3
    have hok := H.out.ok ja hja s HST.out
    have hr3 : RefAt w3 s.rb s.mb s.rc s.S s.on := hok.tw.ref.keep hk3 (by simpa using (hok.lo _ (.inr (.inr (.inl rfl)))).2) (by simpa using (hok.lo _ (.inr (.inr (.inr rfl)))).2)
    have hl3 : b2 < w3.heap.size ∧ wb2 < w3.heap.size := ⟨hpo3.m.lt, hpo3.m.wlt⟩
    have HBL3 := hide hbl3
    have HC := hide hc
    have HCC := hide hcc
    have HB3 := hide hb3
    have HK3 := hide hk3
    have HPO3 := hide hpo3
    have HR3 := hide hr3
    have HOK := hide hok
    have HCS := hide hcs
    clear hbl3 hc hcc hb3 hk3 hpo3 hr3 hok hcs
    clear hf2 hx2 hk2 hpo2 hf1 hi1 hcx1
    go_wp2_with fail
    go_region_with (first
        | (go_at_call 63; refine (rCopy_any (HR3.out.keep ((Kp.refl [] _).drew) (by simp) (by simp))).mono ?_; rintro e w4 ⟨rb2, mb2, rc2, rfl, hrb2, hmb2, href4, hk4⟩; have hf4 := blk_free (hk4.blk ((Kp.refl [] w3).drew.blk HB3.out (by simp)) (by simp)); have hx4 := hk4.cell (a := ⟨pb, 12 + jb, none⟩) ((Kp.refl [] w3).drew.cell hy3b (by simp)) (by simp)))
    change w3.heap.size ≤ rb2 at hrb2
    change w3.heap.size ≤ mb2 at hmb2
    have hk34 := (Kp.refl [] w3).drew.trans' hk4
    have hk5 : Kp [pb] w (w4.setCell ⟨pb, 12 + jb, none⟩ (.pointer (some ⟨rb2, 0, none⟩))) := (HK3.out.trans' (hk34.mono (by simp))).set (by simp) _
    have hk35 : Kp [pb] w3 (w4.setCell ⟨pb, 12 + jb, none⟩ (.pointer (some ⟨rb2, 0, none⟩))) := (hk34.mono (by simp)).set (by simp) _
    have hb5 : (w4.setCell ⟨pb, 12 + jb, none⟩ (.pointer (some ⟨rb2, 0, none⟩))).heap[pb]? = some (.cells ((c.setIfInBounds (8 + jb) (.pointer (some ⟨b2, 0, none⟩))).setIfInBounds (12 + jb) (.pointer (some ⟨rb2, 0, none⟩))) 83 (0, 0)) := blk_set (hk34.blk HB3.out (by simp)) _
    have hr5 : RefAt (w4.setCell ⟨pb, 12 + jb, none⟩ (.pointer (some ⟨rb2, 0, none⟩))) rb2 mb2 rc2 s.S s.on := href4.keep ((Kp.refl [pb] w4).set (by simp) _) (by simp; omega) (by simp; omega)
    have hp5 : PoolAt (w4.setCell ⟨pb, 12 + jb, none⟩ (.pointer (some ⟨rb2, 0, none⟩))) b2 wb2 cap2 s.S s.on := HPO3.out.keep hk35 (by simp; omega) (by simp; omega)
    generalize w4.setCell ⟨pb, 12 + jb, none⟩ (.pointer (some ⟨rb2, 0, none⟩)) = w5 at hk5 hb5 hr5 hp5 ⊢
    have hcs := HCS.out
    have hy5 : w5.cell? ⟨pb, 12 + jb, none⟩ = some (.pointer (some ⟨rb2, 0, none⟩)) := by
      rw [blk_cell hb5, Array.getElem?_setIfInBounds, if_pos rfl, if_pos (by simp; omega)]
    have hx5 : w5.cell? ⟨pb, 8 + jb, none⟩ = some (.pointer (some ⟨b2, 0, none⟩)) := by
      rw [blk_cell hb5, Array.getElem?_setIfInBounds, if_neg (by omega), Array.getElem?_setIfInBounds, if_pos rfl, if_pos (by omega)]
    have hlo := H.out.lo
    have hres : Stepped base pb w (.returned (.bool true)) w5 := by
      refine ⟨rfl, _, H.out.put2 hjb (s := ⟨b2, wb2, cap2, rb2, mb2, rc2, s.S, s.on⟩) hk5 (fun c' hc' => ?_) ⟨⟨hp5, hr5⟩, by show b2 ≠ rb2; omega, by show b2 ≠ mb2; omega, by show wb2 ≠ rb2; omega, by show wb2 ≠ mb2; omega, fun x hx => ?_⟩ (fun i hi t ht x hx hxt => ?_), hk5.q.mono (fun x hx => by simp at hx; omega)⟩
      · rw [HC.out] at hc'
        cases hc'
        exact hb5
      · simp only [Slot.own] at hx
        omega
      · have := (H.out.ok i hi t ht).lt x hxt
        simp only [Slot.own] at hx
        omega
    have hdr : ∀ W, Kp [] w5 W → True := fun _ _ => trivial
    have HRES := hide hres
    clear hres
    clear hy3 hy3b hf3 hf4 hx4 hk5 hb5 hr5 hp5 hk35 hk34 hk4 href4 hl3 hdr
    go_wp2_with fail
    rw [HQ.out]
    exact HRES.out

/-- What both NewPools answer: the same error, or pools alike. -/
def NoPool (s0 s1 s2 s3 : Int) (sps : Sps) (c : Int) : Prop :=
  (∀ w v, RdSO w v sps → Calls Try.prog 14 #[.agg #[.int .i64 s0, .int .i64 s1, .int .i64 s2, .int .i64 s3], v] w fun e w' => e = .returned (.tuple #[.pointer none, .int .i64 c]) ∧ Kp [] w w') ∧
  (∀ w v, RdS w v sps → Calls Try.prog 64 #[.agg #[.int .i64 s0, .int .i64 s1, .int .i64 s2, .int .i64 s3], v] w fun e w' => e = .returned (.tuple #[.pointer none, .int .i64 c]) ∧ Kp [] w w')
def BothPools (s0 s1 s2 s3 : Int) (sps : Sps) (S : Sh) (on : Nat → Bool) : Prop :=
  (∀ w v, RdSO w v sps → Calls Try.prog 14 #[.agg #[.int .i64 s0, .int .i64 s1, .int .i64 s2, .int .i64 s3], v] w fun e w' => ∃ b wb cap, e = .returned (.tuple #[.pointer (some ⟨b, 0, none⟩), .int .i64 0]) ∧ w.heap.size ≤ b ∧ w.heap.size ≤ wb ∧ PoolAt w' b wb cap S on ∧ Kp [] w w') ∧
  (∀ w v, RdS w v sps → Calls Try.prog 64 #[.agg #[.int .i64 s0, .int .i64 s1, .int .i64 s2, .int .i64 s3], v] w fun e w' => ∃ rb mb rc, e = .returned (.tuple #[.pointer (some ⟨rb, 0, none⟩), .int .i64 0]) ∧ w.heap.size ≤ rb ∧ w.heap.size ≤ mb ∧ RefAt w' rb mb rc S on ∧ Kp [] w w')
theorem newPools (s0 s1 s2 s3 : Int) (sps : Sps) (hi : I64 s1) (hlen : sps.length ≤ 8796093022208) : (∃ c, 1 ≤ c ∧ c ≤ 60 ∧ NoPool s0 s1 s2 s3 sps c) ∨ ∃ S on, BothPools s0 s1 s2 s3 sps S on := by
  by_cases h : fits s0 s1 s2 = false ∨ s3 ≠ 4 + s1 / 8
  · exact .inl ⟨30, by decide, by decide, fun w v _ => newPool_shape s0 s1 s2 s3 v h w, fun w v _ => rNewPool_shape s0 s1 s2 s3 v hi h w⟩
  · obtain ⟨h1, h2⟩ := not_or.1 h
    have h3 : fits s0 s1 s2 = true := by simpa using h1
    simp only [fits, Bool.and_eq_true, decide_eq_true_eq, beq_iff_eq, wi_iff] at h3
    obtain ⟨⟨⟨⟨⟨p1, p2⟩, i1, i2⟩, i3⟩, c1, c2⟩, d2⟩ := h3
    have h4 : s3 = 4 + s1 / 8 := by omega
    obtain ⟨S, e0, e1, e2, e3⟩ : ∃ S : Sh, s0 = S.pages ∧ s1 = S.inodes ∧ s2 = S.cores ∧ s3 = S.data := ⟨⟨s0.toNat, s1.toNat, s2.toNat, s3.toNat⟩, by simp; omega, by simp; omega, by simp; omega, by simp; omega⟩
    have ok : S.Ok := ⟨by omega, by omega, by omega, by omega, by omega, by omega, by omega, by omega, by omega⟩
    subst e0 e1 e2 e3
    by_cases hg : goodTo S sps sps.length
    · refine .inr ⟨S, onOf sps sps.length, fun w v hv => ?_, fun w v hv => ?_⟩
      · refine (newPool_anyO S ok v sps w hv (by omega)).mono ?_
        rintro e w1 ⟨hk, ⟨_, b, wb, cap, rfl, hb, hwb, hp⟩ | ⟨hn, _⟩⟩
        · exact ⟨b, wb, cap, rfl, hb, hwb, hp, hk⟩
        · exact absurd hg hn
      · refine (rNewPool_any S ok v sps w hv (by omega)).mono ?_
        rintro e w1 ⟨hk, ⟨_, rb, mb, rfl, hb, hwb, hp⟩ | ⟨hn, _⟩⟩
        · exact ⟨rb, mb, _, rfl, hb, hwb, hp, hk⟩
        · exact absurd hg hn
    · refine .inl ⟨52, by decide, by decide, fun w v hv => ?_, fun w v hv => ?_⟩
      · refine (newPool_anyO S ok v sps w hv (by omega)).mono ?_
        rintro e w1 ⟨hk, ⟨hn, _⟩ | ⟨_, rfl⟩⟩
        · exact absurd hn hg
        · exact ⟨rfl, hk⟩
      · refine (rNewPool_any S ok v sps w hv (by omega)).mono ?_
        rintro e w1 ⟨hk, ⟨hn, _⟩ | ⟨_, rfl⟩⟩
        · exact absurd hn hg
        · exact ⟨rfl, hk⟩

set_option maxHeartbeats 2000000 in
set_option maxRecDepth 100000 in
theorem makes_pool (h : PlayAt w base pb st) (kind a b n m s0 s1 s2 s3 : Int) (pg sp : Value) (sps : Sps) (hk : kind ≠ 19) (ha : I64 a) (hb : I64 b) (hi : I64 s1) (hsp : RdSO w sp sps) (hcp : ∀ w', Kp [] w w' → Calls Try.prog 21 #[sp] w' fun e w'' => ∃ v', e = .returned v' ∧ Own w'' w'.heap.size v' sps ∧ Kp [] w' w'') (hlen : sps.length ≤ 8796093022208) :
    Calls Try.prog 57 #[.pointer (some ⟨pb, 0, none⟩), .agg #[.int .i64 kind, .int .i64 a, .int .i64 b, .int .i64 n, .int .i64 m, pg, sp, .int .i64 s0, .int .i64 s1, .int .i64 s2, .int .i64 s3]] w (Stepped base pb w) := by
  have k19 : (kind == 19) = false := by simpa using hk
  obtain ⟨ja, hja, ea⟩ := slot_of a ha
  obtain ⟨jb, hjb, eb⟩ := slot_of b hb
  obtain ⟨Q, hQ⟩ : ∃ Q, Q = Stepped base pb w := ⟨_, rfl⟩
  rw [← hQ]
  have H := hide h
  have HQ := hide hQ
  have HK := hide hk
  have HA := hide ha
  have HB := hide hb
  have HSP := hide hsp
  have HCP := hide hcp
  have HI := hide hi
  clear h hQ hk ha hb hsp hcp hi
  have hlt := H.out.lt
  have hpb : pb ≠ w.heap.size := by omega
  go_enter Try.func57, Try.ntmps57
  go_wp2_with fail
  have hka : Kp [] w (w.alloc (.cells #[.int .i64 kind, .int .i64 a, .int .i64 b, .int .i64 n, .int .i64 m, pg, sp, .int .i64 s0, .int .i64 s1, .int .i64 s2, .int .i64 s3] 85)) := (Kp.refl _ _).alloc _
  have hba : (w.alloc (.cells #[.int .i64 kind, .int .i64 a, .int .i64 b, .int .i64 n, .int .i64 m, pg, sp, .int .i64 s0, .int .i64 s1, .int .i64 s2, .int .i64 s3] 85)).heap[w.heap.size]? = some (.cells #[.int .i64 kind, .int .i64 a, .int .i64 b, .int .i64 n, .int .i64 m, pg, sp, .int .i64 s0, .int .i64 s1, .int .i64 s2, .int .i64 s3] 85 (0, 0)) := blk_new _ _
  generalize w.alloc (.cells #[.int .i64 kind, .int .i64 a, .int .i64 b, .int .i64 n, .int .i64 m, pg, sp, .int .i64 s0, .int .i64 s1, .int .i64 s2, .int .i64 s3] 85) = wa at hka hba ⊢
  have hz7 := blk_cell hba 7
  have hz8 := blk_cell hba 8
  have hz9 := blk_cell hba 9
  have hz10 := blk_cell hba 10
  have hz6 := blk_cell hba 6
  simp only [List.getElem?_toArray, List.getElem?_cons_succ, List.getElem?_cons_zero] at hz6 hz7 hz8 hz9 hz10
  have hsa := hka.size
  have hpa := H.out.keep0 hka
  have HKA := hide hka
  have HBA := hide hba
  have HPA := hide hpa
  clear hka hba hpa
  refine (HCP.out _ HKA.out).mono ?_
  rintro e w1 ⟨v1, rfl, ho1, hk1⟩
  replace hz6 := hk1.cell hz6 (by simp)
  replace hz7 := hk1.cell hz7 (by simp)
  replace hz8 := hk1.cell hz8 (by simp)
  replace hz9 := hk1.cell hz9 (by simp)
  replace hz10 := hk1.cell hz10 (by simp)
  have hka1 := HKA.out.trans' hk1
  have hsz1 := hka1.size
  have hlo1 := H.out.lo
  have HO1 := hide ho1
  have HK1 := hide hk1
  have HKA1 := hide hka1
  clear ho1 hk1 hka1
  rcases newPools s0 s1 s2 s3 sps HI.out hlen with ⟨c, hc1, hc2, hno⟩ | ⟨S, on, hbo⟩
  · have tc : decide (c = 0) = false := by simp; omega
    have HNO := hide hno
    clear hno
    go_wp2_with fail
    refine (HNO.out.1 _ _ (HSP.out.keep HKA1.out (by simp))).mono ?_
    rintro e w2 ⟨rfl, hk2⟩
    replace hz6 := hk2.cell hz6 (by simp)
    replace hz7 := hk2.cell hz7 (by simp)
    replace hz8 := hk2.cell hz8 (by simp)
    replace hz9 := hk2.cell hz9 (by simp)
    replace hz10 := hk2.cell hz10 (by simp)
    have ho2 := HO1.out.keep hk2 (by simp)
    have HO2 := hide ho2
    have HK2 := hide hk2
    clear ho2 hk2
    go_wp2_with fail
    refine (HNO.out.2 _ _ HO2.out.rd).mono ?_
    rintro e w3 ⟨rfl, hk3⟩
    replace hz6 := hk3.cell hz6 (by simp)
    replace hz7 := hk3.cell hz7 (by simp)
    replace hz8 := hk3.cell hz8 (by simp)
    replace hz9 := hk3.cell hz9 (by simp)
    replace hz10 := hk3.cell hz10 (by simp)
    have hk03 := HKA1.out.trans' (HK2.out.trans' hk3)
    have ho3 := HO2.out.keep hk3 (by simp)
    have hsp3 := HSP.out.keep hk03 (by simp)
    have HO3 := hide ho3
    have HK3 := hide hk3
    have HK03 := hide hk03
    have HSP3 := hide hsp3
    clear ho3 hk3 hk03 hsp3
    go_wp2_with fail
    refine (sameSpans_eqO (l := sps) HSP3.out HO3.out.rd.o (by omega)).mono ?_
    rintro e w4 ⟨rfl, k4, rfl⟩
    go_wp2_with fail
    rw [HQ.out]
    exact ⟨rfl, st, H.out.keep0 (HK03.out.drewN _), ((HK03.out.drewN _).q).mono (by simp)⟩
  · have HBO := hide hbo
    clear hbo
    go_wp2_with fail
    refine (HBO.out.1 _ _ (HSP.out.keep HKA1.out (by simp))).mono ?_
    rintro e w2 ⟨b2, wb2, cap2, rfl, hb2, hwb2, hpo2, hk2⟩
    replace hz6 := hk2.cell hz6 (by simp)
    replace hz7 := hk2.cell hz7 (by simp)
    replace hz8 := hk2.cell hz8 (by simp)
    replace hz9 := hk2.cell hz9 (by simp)
    replace hz10 := hk2.cell hz10 (by simp)
    have ho2 := HO1.out.keep hk2 (by simp)
    have hl2 : b2 < w2.heap.size ∧ wb2 < w2.heap.size := ⟨hpo2.m.lt, hpo2.m.wlt⟩
    have HO2 := hide ho2
    have HK2 := hide hk2
    have HPO2 := hide hpo2
    clear ho2 hk2 hpo2
    go_wp2_with fail
    refine (HBO.out.2 _ _ HO2.out.rd).mono ?_
    rintro e w3 ⟨rb2, mb2, rc2, rfl, hrb2, hmb2, href3, hk3⟩
    replace hz6 := hk3.cell hz6 (by simp)
    replace hz7 := hk3.cell hz7 (by simp)
    replace hz8 := hk3.cell hz8 (by simp)
    replace hz9 := hk3.cell hz9 (by simp)
    replace hz10 := hk3.cell hz10 (by simp)
    have hk03 := HKA1.out.trans' (HK2.out.trans' hk3)
    have ho3 := HO2.out.keep hk3 (by simp)
    have hsp3 := HSP.out.keep hk03 (by simp)
    have hpo3 := HPO2.out.keep hk3 (by simp) (by simp)
    have HO3 := hide ho3
    have HK3 := hide hk3
    have HK03 := hide hk03
    have HSP3 := hide hsp3
    have HREF3 := hide href3
    have HPO3 := hide hpo3
    clear ho3 hk3 hk03 hsp3 href3 hpo3
    go_wp2_with fail
    refine (sameSpans_eqO (l := sps) HSP3.out HO3.out.rd.o (by omega)).mono ?_
    rintro e w4 ⟨rfl, k4, rfl⟩
    have hp3 := H.out.keep0 HK03.out
    have hf3 := hp3.f
    have hx3 := hp3.cx hja
    have hy3 := hp3.cy hja
    have hl3 := hp3.lt
    go_wp2_with fail
    rw [HQ.out]
    have hkd := HK03.out.drewN k4
    have hsz2 := HK2.out.size
    have hrl := HREF3.out.lt
    have hml := HREF3.out.mlt
    have hok : SlotOk (w3.drewN k4) base pb ⟨b2, wb2, cap2, rb2, mb2, rc2, S, on⟩ := by
      refine ⟨⟨HPO3.out.drewN k4, HREF3.out.keep ((Kp.refl [] _).drewN k4) (by simp) (by simp)⟩, by show b2 ≠ rb2; omega, by show b2 ≠ mb2; omega, by show wb2 ≠ rb2; omega, by show wb2 ≠ mb2; omega, fun x hx => ?_⟩
      simp only [Slot.own] at hx
      omega
    refine ⟨rfl, _, (H.out.keep0 hkd).put hja hok (fun i hi t ht x hx hxt => ?_), (((hkd.mono (T := [pb]) (by simp)).set (by simp) _).set (by simp) _).q.mono (fun x hx => by simp at hx; omega)⟩
    have := (H.out.ok i hi t ht).lt x hxt
    simp only [Slot.own] at hx
    omega
end
end Go.Proofs.Ytoghdhjeopcjkaa
