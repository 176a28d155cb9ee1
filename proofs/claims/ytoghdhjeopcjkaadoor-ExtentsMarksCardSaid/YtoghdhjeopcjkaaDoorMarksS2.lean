
/- The walk of a step of bitmaps: Has, Count, Merge, Holes. Conditions: a play; a step of the script. -/
import Derived.Test.YtoghdhjeopcjkaaDoorMarksS
import Derived.Test.YtoghdhjeopcjkaaDoorHoles
namespace Go.Proofs.YtoghdhjeopcjkaaDoor
open Go.RowKit Go.Deep

section
variable {w : World} {base pb : Nat} {st : Nat → Option MSlot}
set_option maxHeartbeats 4000000 in
set_option maxRecDepth 100000 in
theorem marks_has (h : MPlayAt w base pb st) (kind a b n m s0 s1 s2 s3 : Int) (pg sp : Value) (hk : kind = 3) (ha : I64 a) (hb : I64 b) {s : MSlot} {ja : Nat} (hja : ja < 4) (ea : bits .and .i64 a 3 = (ja : Int)) (hst : st ja = some s) :
    Calls Tryd.prog 6 #[.pointer (some ⟨pb, 0, none⟩), .agg #[.int .i64 kind, .int .i64 a, .int .i64 b, .int .i64 n, .int .i64 m, pg, sp, .int .i64 s0, .int .i64 s1, .int .i64 s2, .int .i64 s3]] w (MStepped base pb w) := by
  obtain ⟨Q, hQ⟩ : ∃ Q, Q = MStepped base pb w := ⟨_, rfl⟩
  rw [← hQ]
  have hlt := h.lt
  have hpb : pb ≠ w.heap.size := by omega
  have hcy := h.cy hja
  have hcx := h.cx hja
  rw [hst] at hcy hcx
  simp only [ptrM, ptrR, Option.map_some] at hcy hcx
  have hja1 : (0 : Int) ≤ (ja : Int) := by omega
  have hja2 : (ja : Int) < 4 := by omega
  obtain ⟨jb, hjb, eb⟩ := slot_of b hb
  have k1 : (kind == 1) = false := by simp; omega
  have k2 : (kind == 2) = false := by simp; omega
  have k3 : (kind == 3) = true := by simp; omega
  have H := hide h
  have HQ := hide hQ
  have HK := hide hk
  have HA := hide ha
  have HB := hide hb
  have HST := hide hst
  clear h hQ hk ha hb hst
  go_enter Tryd.func6, Tryd.ntmps6
  go_wp2_with fail
  have hka : Kp [] w (w.alloc (.cells #[.int .i64 kind, .int .i64 a, .int .i64 b, .int .i64 n, .int .i64 m, pg, sp, .int .i64 s0, .int .i64 s1, .int .i64 s2, .int .i64 s3] 40)) := (Kp.refl _ _).alloc _
  have hba : (w.alloc (.cells #[.int .i64 kind, .int .i64 a, .int .i64 b, .int .i64 n, .int .i64 m, pg, sp, .int .i64 s0, .int .i64 s1, .int .i64 s2, .int .i64 s3] 40)).heap[w.heap.size]? = some (.cells #[.int .i64 kind, .int .i64 a, .int .i64 b, .int .i64 n, .int .i64 m, pg, sp, .int .i64 s0, .int .i64 s1, .int .i64 s2, .int .i64 s3] 40 (0, 0)) := blk_new _ _
  generalize w.alloc (.cells #[.int .i64 kind, .int .i64 a, .int .i64 b, .int .i64 n, .int .i64 m, pg, sp, .int .i64 s0, .int .i64 s1, .int .i64 s2, .int .i64 s3] 40) = wa at hka hba ⊢
  have hz3 := blk_cell hba 3
  have hz4 := blk_cell hba 4
  simp only [List.getElem?_toArray, List.getElem?_cons_succ, List.getElem?_cons_zero] at hz3 hz4
  have hp1 := H.out.keep0 hka
  have hok := hp1.ok ja hja s HST.out
  have hsa := hka.size
  have hq1 : ∀ x, x ∈ [s.b, s.wb] → s.own x := fun x hx => by simp at hx; rcases hx with rfl | rfl; exact .inl rfl; exact .inr (.inl rfl)
  have hq2 : ∀ x, x ∈ blks s.ra → s.own x := fun x hx => .inr (.inr (.inr (blks_own hx)))
  have hq3 : s.b ∉ blks s.ra ∧ s.wb ∉ blks s.ra ∧ s.rb ∉ [s.b, s.wb] := ⟨fun hx => (hok.n3 _ (blks_own hx)).1 rfl, fun hx => (hok.n3 _ (blks_own hx)).2 rfl, by have := hok.n1; have := hok.n2; simp; omega⟩
  have hq4 : ∀ g, (Value.slice s.ra s.n s.rc).ownBlock = some g → g ∉ [s.b, s.wb] := fun g hg => by have := hok.n3 g hg; simp; omega
  have hz3f : ∀ x, s.own x → x ≠ w.heap.size := fun x hx => by have := (H.out.ok ja hja s HST.out).lt x hx; omega
  have hz3b : w.heap.size ∉ [s.b, s.wb] ∧ w.heap.size ∉ blks s.ra := ⟨fun hx => hz3f _ (hq1 _ hx) rfl, fun hx => hz3f _ (hq2 _ hx) rfl⟩
  have HP1 := hide hp1
  have HKA := hide hka
  have HOK := hide hok
  have HBA := hide hba
  have HQ1 := hide hq1
  have HQ2 := hide hq2
  have HQ3 := hide hq3
  have HQ4 := hide hq4
  have HZ := hide hz3b
  clear hp1 hka hok hba hq1 hq2 hq3 hq4 hz3b
  clear hz3f
  obtain ⟨q, hq⟩ : ∃ q, (decide (0 ≤ n) && s.on n.toNat) = q := ⟨_, rfl⟩
  have hph : ∀ z, Calls Tryd.prog 11 #[.pointer (some ⟨s.b, 0, none⟩), .int .i64 n] (wa.drewN z) fun e w' => e = .returned (.bool q) ∧ ∃ k, w' = (wa.drewN z).drewN k := fun z => by have h1 := bmHas_any (HOK.out.m.drewN z) n; rw [hq] at h1; exact h1
  have hrh : ∀ z, Calls Tryd.prog 23 #[.pointer (some ⟨s.rb, 0, none⟩), .int .i64 n] (wa.drewN z) fun e w' => e = .returned (.bool q) ∧ ∃ k, w' = (wa.drewN z).drewN k := fun z => by
    refine (rbHas_any (HOK.out.r.keep ((Kp.refl [] _).drewN z) (by simp) (by simp)) n).mono ?_
    rw [hq]
    rintro e w1 ⟨rfl, rfl⟩
    exact ⟨rfl, 0, rfl⟩
  have HPH := hide hph
  have HRH := hide hrh
  clear hph hrh
  clear hq hz4 hcx hcy
  go_quiet ((first | (go_at_call 11; refine Calls.quiet_of (HPH.out _)) | (go_at_call 23; refine Calls.quiet_of (HRH.out _))))
  go_wp2_with fail
  rw [HQ.out]
  exact MStepped.first ⟨by simp, st, HP1.out.keep0 ((Kp.refl _ _).drewN _), (((Kp.refl [] _).drewN _).q).mono (by simp)⟩ HKA.out
set_option maxHeartbeats 4000000 in
set_option maxRecDepth 100000 in
theorem marks_count (h : MPlayAt w base pb st) (kind a b n m s0 s1 s2 s3 : Int) (pg sp : Value) (hk : kind = 4) (ha : I64 a) (hb : I64 b) {s : MSlot} {ja : Nat} (hja : ja < 4) (ea : bits .and .i64 a 3 = (ja : Int)) (hst : st ja = some s) :
    Calls Tryd.prog 6 #[.pointer (some ⟨pb, 0, none⟩), .agg #[.int .i64 kind, .int .i64 a, .int .i64 b, .int .i64 n, .int .i64 m, pg, sp, .int .i64 s0, .int .i64 s1, .int .i64 s2, .int .i64 s3]] w (MStepped base pb w) := by
  obtain ⟨Q, hQ⟩ : ∃ Q, Q = MStepped base pb w := ⟨_, rfl⟩
  rw [← hQ]
  have hlt := h.lt
  have hpb : pb ≠ w.heap.size := by omega
  have hcy := h.cy hja
  have hcx := h.cx hja
  rw [hst] at hcy hcx
  simp only [ptrM, ptrR, Option.map_some] at hcy hcx
  have hja1 : (0 : Int) ≤ (ja : Int) := by omega
  have hja2 : (ja : Int) < 4 := by omega
  obtain ⟨jb, hjb, eb⟩ := slot_of b hb
  have k1 : (kind == 1) = false := by simp; omega
  have k2 : (kind == 2) = false := by simp; omega
  have k3 : (kind == 3) = false := by simp; omega
  have k4 : (kind == 4) = true := by simp; omega
  have H := hide h
  have HQ := hide hQ
  have HK := hide hk
  have HA := hide ha
  have HB := hide hb
  have HST := hide hst
  clear h hQ hk ha hb hst
  go_enter Tryd.func6, Tryd.ntmps6
  go_wp2_with fail
  have hka : Kp [] w (w.alloc (.cells #[.int .i64 kind, .int .i64 a, .int .i64 b, .int .i64 n, .int .i64 m, pg, sp, .int .i64 s0, .int .i64 s1, .int .i64 s2, .int .i64 s3] 40)) := (Kp.refl _ _).alloc _
  have hba : (w.alloc (.cells #[.int .i64 kind, .int .i64 a, .int .i64 b, .int .i64 n, .int .i64 m, pg, sp, .int .i64 s0, .int .i64 s1, .int .i64 s2, .int .i64 s3] 40)).heap[w.heap.size]? = some (.cells #[.int .i64 kind, .int .i64 a, .int .i64 b, .int .i64 n, .int .i64 m, pg, sp, .int .i64 s0, .int .i64 s1, .int .i64 s2, .int .i64 s3] 40 (0, 0)) := blk_new _ _
  generalize w.alloc (.cells #[.int .i64 kind, .int .i64 a, .int .i64 b, .int .i64 n, .int .i64 m, pg, sp, .int .i64 s0, .int .i64 s1, .int .i64 s2, .int .i64 s3] 40) = wa at hka hba ⊢
  have hz3 := blk_cell hba 3
  have hz4 := blk_cell hba 4
  simp only [List.getElem?_toArray, List.getElem?_cons_succ, List.getElem?_cons_zero] at hz3 hz4
  have hp1 := H.out.keep0 hka
  have hok := hp1.ok ja hja s HST.out
  have hsa := hka.size
  have hq1 : ∀ x, x ∈ [s.b, s.wb] → s.own x := fun x hx => by simp at hx; rcases hx with rfl | rfl; exact .inl rfl; exact .inr (.inl rfl)
  have hq2 : ∀ x, x ∈ blks s.ra → s.own x := fun x hx => .inr (.inr (.inr (blks_own hx)))
  have hq3 : s.b ∉ blks s.ra ∧ s.wb ∉ blks s.ra ∧ s.rb ∉ [s.b, s.wb] := ⟨fun hx => (hok.n3 _ (blks_own hx)).1 rfl, fun hx => (hok.n3 _ (blks_own hx)).2 rfl, by have := hok.n1; have := hok.n2; simp; omega⟩
  have hq4 : ∀ g, (Value.slice s.ra s.n s.rc).ownBlock = some g → g ∉ [s.b, s.wb] := fun g hg => by have := hok.n3 g hg; simp; omega
  have hz3f : ∀ x, s.own x → x ≠ w.heap.size := fun x hx => by have := (H.out.ok ja hja s HST.out).lt x hx; omega
  have hz3b : w.heap.size ∉ [s.b, s.wb] ∧ w.heap.size ∉ blks s.ra := ⟨fun hx => hz3f _ (hq1 _ hx) rfl, fun hx => hz3f _ (hq2 _ hx) rfl⟩
  have HP1 := hide hp1
  have HKA := hide hka
  have HOK := hide hok
  have HBA := hide hba
  have HQ1 := hide hq1
  have HQ2 := hide hq2
  have HQ3 := hide hq3
  have HQ4 := hide hq4
  have HZ := hide hz3b
  clear hp1 hka hok hba hq1 hq2 hq3 hq4 hz3b
  clear hz3f
  clear hz3 hz4 hcx hcy
  refine (bmCount_any HOK.out.m).mono ?_
  rintro e w1 ⟨rfl, rfl⟩
  go_wp2_with fail
  refine (rbCount_any HOK.out.r).mono ?_
  rintro e w1 ⟨rfl, rfl⟩
  go_wp2_with fail
  rw [HQ.out]
  exact MStepped.first ⟨by simp, st, HP1.out, ((Kp.refl [] _).q).mono (by simp)⟩ HKA.out
set_option maxHeartbeats 4000000 in
set_option maxRecDepth 100000 in
theorem marks_holes (h : MPlayAt w base pb st) (kind a b n m s0 s1 s2 s3 : Int) (pg sp : Value) (hk : kind ≠ 1 ∧ kind ≠ 2 ∧ kind ≠ 3 ∧ kind ≠ 4 ∧ kind ≠ 5) (ha : I64 a) (hb : I64 b) {s : MSlot} {ja : Nat} (hja : ja < 4) (ea : bits .and .i64 a 3 = (ja : Int)) (hst : st ja = some s) :
    Calls Tryd.prog 6 #[.pointer (some ⟨pb, 0, none⟩), .agg #[.int .i64 kind, .int .i64 a, .int .i64 b, .int .i64 n, .int .i64 m, pg, sp, .int .i64 s0, .int .i64 s1, .int .i64 s2, .int .i64 s3]] w (MStepped base pb w) := by
  obtain ⟨Q, hQ⟩ : ∃ Q, Q = MStepped base pb w := ⟨_, rfl⟩
  rw [← hQ]
  have hlt := h.lt
  have hpb : pb ≠ w.heap.size := by omega
  have hcy := h.cy hja
  have hcx := h.cx hja
  rw [hst] at hcy hcx
  simp only [ptrM, ptrR, Option.map_some] at hcy hcx
  have hja1 : (0 : Int) ≤ (ja : Int) := by omega
  have hja2 : (ja : Int) < 4 := by omega
  obtain ⟨jb, hjb, eb⟩ := slot_of b hb
  have k1 : (kind == 1) = false := by simp; omega
  have k2 : (kind == 2) = false := by simp; omega
  have k3 : (kind == 3) = false := by simp; omega
  have k4 : (kind == 4) = false := by simp; omega
  have k5 : (kind == 5) = false := by simp; omega
  have H := hide h
  have HQ := hide hQ
  have HK := hide hk
  have HA := hide ha
  have HB := hide hb
  have HST := hide hst
  clear h hQ hk ha hb hst
  obtain ⟨L, l, h', hl, hh, hL, hlen⟩ : ∃ (L : Sps) (l h' : Nat), mn (mx n 0) s.n = (l : Int) ∧ mx (mn m s.n) 0 = (h' : Int) ∧ runsTo (fun i => !s.on i) l (h' - l) = L ∧ L.length ≤ 1024 := by
    have a1 := mn_le (mx n 0) s.n
    have a2 := mx_le n 0
    have a3 := mx_le (mn m s.n) 0
    have a4 := mn_le m s.n
    have a5 := (H.out.ok ja hja s HST.out).m.nle
    refine ⟨_, (mn (mx n 0) s.n).toNat, (mx (mn m s.n) 0).toNat, by omega, by omega, rfl, ?_⟩
    have a6 := runsTo_length (fun i => !s.on i) (mn (mx n 0) s.n).toNat ((mx (mn m s.n) 0).toNat - (mn (mx n 0) s.n).toNat)
    omega
  have hc1 : ∀ w', BmAt w' s.b s.wb s.cap s.n s.on → Calls Tryd.prog 14 #[.pointer (some ⟨s.b, 0, none⟩), .int .i64 n, .int .i64 m] w' fun e w'' => ∃ v, e = .returned v ∧ Own w'' w'.heap.size v L ∧ Kp [] w' w'' := fun w' hw => by
    have h1 := bmHoles_any hw n m l h' hl hh
    rw [hL] at h1; exact h1
  have hc2 : ∀ w', RbAt w' base s.rb s.ra s.rc s.n s.on → Calls Tryd.prog 27 #[.pointer (some ⟨s.rb, 0, none⟩), .int .i64 n, .int .i64 m] w' fun e w'' => ∃ v, e = .returned v ∧ Own w'' w'.heap.size v L ∧ Kp [] w' w'' := fun w' hw => by
    have h1 := rbHoles_any hw n m
    rw [hol_runs s.on n m s.n l h' hl hh, hL] at h1; exact h1
  have HC1 := hide hc1
  have HC2 := hide hc2
  clear hc1 hc2
  clear hl hh hL
  go_enter Tryd.func6, Tryd.ntmps6
  go_wp2_with fail
  have hka : Kp [] w (w.alloc (.cells #[.int .i64 kind, .int .i64 a, .int .i64 b, .int .i64 n, .int .i64 m, pg, sp, .int .i64 s0, .int .i64 s1, .int .i64 s2, .int .i64 s3] 40)) := (Kp.refl _ _).alloc _
  have hba : (w.alloc (.cells #[.int .i64 kind, .int .i64 a, .int .i64 b, .int .i64 n, .int .i64 m, pg, sp, .int .i64 s0, .int .i64 s1, .int .i64 s2, .int .i64 s3] 40)).heap[w.heap.size]? = some (.cells #[.int .i64 kind, .int .i64 a, .int .i64 b, .int .i64 n, .int .i64 m, pg, sp, .int .i64 s0, .int .i64 s1, .int .i64 s2, .int .i64 s3] 40 (0, 0)) := blk_new _ _
  generalize w.alloc (.cells #[.int .i64 kind, .int .i64 a, .int .i64 b, .int .i64 n, .int .i64 m, pg, sp, .int .i64 s0, .int .i64 s1, .int .i64 s2, .int .i64 s3] 40) = wa at hka hba ⊢
  have hz3 := blk_cell hba 3
  have hz4 := blk_cell hba 4
  simp only [List.getElem?_toArray, List.getElem?_cons_succ, List.getElem?_cons_zero] at hz3 hz4
  have hp1 := H.out.keep0 hka
  have hok := hp1.ok ja hja s HST.out
  have hsa := hka.size
  have hq1 : ∀ x, x ∈ [s.b, s.wb] → s.own x := fun x hx => by simp at hx; rcases hx with rfl | rfl; exact .inl rfl; exact .inr (.inl rfl)
  have hq2 : ∀ x, x ∈ blks s.ra → s.own x := fun x hx => .inr (.inr (.inr (blks_own hx)))
  have hq3 : s.b ∉ blks s.ra ∧ s.wb ∉ blks s.ra ∧ s.rb ∉ [s.b, s.wb] := ⟨fun hx => (hok.n3 _ (blks_own hx)).1 rfl, fun hx => (hok.n3 _ (blks_own hx)).2 rfl, by have := hok.n1; have := hok.n2; simp; omega⟩
  have hq4 : ∀ g, (Value.slice s.ra s.n s.rc).ownBlock = some g → g ∉ [s.b, s.wb] := fun g hg => by have := hok.n3 g hg; simp; omega
  have hz3f : ∀ x, s.own x → x ≠ w.heap.size := fun x hx => by have := (H.out.ok ja hja s HST.out).lt x hx; omega
  have hz3b : w.heap.size ∉ [s.b, s.wb] ∧ w.heap.size ∉ blks s.ra := ⟨fun hx => hz3f _ (hq1 _ hx) rfl, fun hx => hz3f _ (hq2 _ hx) rfl⟩
  have HP1 := hide hp1
  have HKA := hide hka
  have HOK := hide hok
  have HBA := hide hba
  have HQ1 := hide hq1
  have HQ2 := hide hq2
  have HQ3 := hide hq3
  have HQ4 := hide hq4
  have HZ := hide hz3b
  clear hp1 hka hok hba hq1 hq2 hq3 hq4 hz3b
  clear hz3f
  clear hcx hcy
  go_region_held3 (fun w' => w'.cell? ⟨w.heap.size, 3, none⟩ = some (.int .i64 n) ∧ w'.cell? ⟨w.heap.size, 4, none⟩ = some (.int .i64 m))
    (first | exact ⟨y3, y4⟩ | exact ⟨x3, x4⟩ | exact ⟨hz3, hz4⟩)
    (first
      | (go_at_call 14; refine (HC1.out _ (HOK.out.m.keep (by first | exact ((Kp.refl [] wa).drew.trans' hk2) | exact (Kp.refl [] wa).drew) (by simp) (by simp))).mono ?_; rintro e w1 ⟨v1, rfl, ho1, hk1⟩; have x3 := hk1.cell (a := ⟨w.heap.size, 3, none⟩) (by first | exact y3 | exact hz3) (by simp); have x4 := hk1.cell (a := ⟨w.heap.size, 4, none⟩) (by first | exact y4 | exact hz4) (by simp))
      | (go_at_call 27; refine (HC2.out _ (HOK.out.r.keep (by first | exact ((Kp.refl [] wa).drew.trans' hk1) | exact (Kp.refl [] wa).drew) (by simp) (by simp))).mono ?_; rintro e w2 ⟨v2, rfl, ho2, hk2⟩; have y3 := hk2.cell (a := ⟨w.heap.size, 3, none⟩) (by first | exact x3 | exact hz3) (by simp); have y4 := hk2.cell (a := ⟨w.heap.size, 4, none⟩) (by first | exact x4 | exact hz4) (by simp))
      | (go_at_call 26; refine (sameSpans_eq (l := L) (by first | exact ho1.rd | exact (ho1.keep hk2 (by simp)).rd) (by first | exact ho2.rd | exact (ho2.keep hk1 (by simp)).rd) (by omega)).mono ?_; rintro e w3 ⟨rfl, k3, rfl⟩))
  all_goals
    go_wp2_with fail
    rw [HQ.out]
    first
      | exact MStepped.first ⟨rfl, st, HP1.out.keep0 ((((Kp.refl [] wa).drew.trans' hk1).trans' hk2).drewN _), ((((Kp.refl [] wa).drew.trans' hk1).trans' hk2).drewN _).q.mono (by simp)⟩ HKA.out
      | exact MStepped.first ⟨rfl, st, HP1.out.keep0 ((((Kp.refl [] wa).drew.trans' hk2).trans' hk1).drewN _), ((((Kp.refl [] wa).drew.trans' hk2).trans' hk1).drewN _).q.mono (by simp)⟩ HKA.out
end
end Go.Proofs.YtoghdhjeopcjkaaDoor
