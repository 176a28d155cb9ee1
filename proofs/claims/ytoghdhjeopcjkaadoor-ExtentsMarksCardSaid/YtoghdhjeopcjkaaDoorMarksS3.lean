
/- The walk of a step of bitmaps: Merge. Conditions: a play; a step of the script. -/
import Derived.Test.YtoghdhjeopcjkaaDoorMarksS2
namespace Go.Proofs.YtoghdhjeopcjkaaDoor
open Go.RowKit Go.Deep

section
variable {w : World} {base pb : Nat} {st : Nat → Option MSlot}
def MergesX (s : MSlot) (tb tr : Value) (wa : World) (base : Nat) (u : Int) (on' : Nat → Bool) : Prop :=
  (∀ w', Kp (blks s.ra) wa w' → Calls Tryd.prog 12 #[.pointer (some ⟨s.b, 0, none⟩), tb] w' fun e w'' => e = .returned (.int .i64 u) ∧ BmAt w'' s.b s.wb s.cap s.n on' ∧ Kp [s.b, s.wb] w' w'') ∧
  (∀ w', Kp [s.b, s.wb] wa w' → Calls Tryd.prog 25 #[.pointer (some ⟨s.rb, 0, none⟩), tr] w' fun e w'' => e = .returned (.int .i64 u) ∧ RbAt w'' base s.rb s.ra s.rc s.n on' ∧ Kp (blks s.ra) w' w'')
theorem isLeast_some (p : Nat → Bool) (n : Nat) : ∃ u, IsLeast p n u := by
  induction n with
  | zero => exact ⟨-1, .inl ⟨rfl, fun i hi => by omega⟩⟩
  | succ n ih =>
    obtain ⟨u, hu⟩ := ih
    by_cases h0 : 0 ≤ u
    · exact ⟨u, hu.kept h0 (by omega)⟩
    · have h3 := (hu.none (by omega)).2
      cases hp : p n with
      | true => exact ⟨n, .inr ⟨n, rfl, by omega, hp, h3⟩⟩
      | false => exact ⟨-1, .inl ⟨rfl, fun i hi => if e : i = n then by rw [e]; exact hp else h3 i (by omega)⟩⟩
theorem merges {wa : World} (h : MPlayAt wa base pb st) {ja jb : Nat} (hja : ja < 4) (hjb : jb < 4) {s : MSlot} (hs : st ja = some s) : ∃ u on', MergesX s (ptrM (st jb)) (ptrR (st jb)) wa base u on' := by
  have hok := h.ok ja hja s hs
  have q1 : ∀ x, x ∈ [s.b, s.wb] → s.own x := fun x hx => by simp at hx; rcases hx with rfl | rfl; exact .inl rfl; exact .inr (.inl rfl)
  have q2 : ∀ x, x ∈ blks s.ra → s.own x := fun x hx => .inr (.inr (.inr (blks_own hx)))
  have q3 : s.b ∉ blks s.ra ∧ s.wb ∉ blks s.ra ∧ s.rb ∉ [s.b, s.wb] := ⟨fun hx => (hok.n3 _ (blks_own hx)).1 rfl, fun hx => (hok.n3 _ (blks_own hx)).2 rfl, by have := hok.n1; have := hok.n2; simp; omega⟩
  have q4 : ∀ g, (Value.slice s.ra s.n s.rc).ownBlock = some g → g ∉ [s.b, s.wb] := fun g hg => by have := hok.n3 g hg; simp; omega
  have h0 : ∀ x, s.own x → x ≠ 0 := fun x hx => by have := (hok.lo x hx).1; have := h.pos; omega
  cases ht : st jb with
  | none =>
    refine ⟨-1, s.on, fun w' k => (bmMerge_nil w' s.b).mono ?_, fun w' k => (rbMerge_nil w' s.rb).mono ?_⟩
    · rintro e w1 ⟨rfl, rfl⟩
      exact ⟨rfl, hok.m.keep k q3.1 q3.2.1, Kp.refl _ _⟩
    · rintro e w1 ⟨rfl, rfl⟩
      exact ⟨rfl, hok.r.keep k q3.2.2 q4, Kp.refl _ _⟩
  | some t =>
    obtain ⟨u, hu⟩ := isLeast_some (bothOn s.on t.on) s.n
    refine ⟨u, fun i => s.on i || cap2 s.n t.on i, fun w' k => (bmMerge_any (ob := t.b) (ow := t.wb) (oc := t.cap) (no := t.n) (oo := t.on) (hok.m.keep k q3.1 q3.2.1) ?_ (h.tab.keep k (fun hx => h0 _ (q2 _ hx) rfl)) (h0 _ (.inl rfl)) (h0 _ (.inr (.inl rfl)))).mono ?_, fun w' k => (rbMerge_any (ob := t.rb) (oo := t.on) (hok.r.keep k q3.2.2 q4) ?_).mono ?_⟩
    · by_cases e : jb = ja
      · subst e
        rw [hs] at ht
        cases ht
        exact .inl ⟨rfl, rfl, rfl, rfl, rfl⟩
      · have ha := h.apart jb ja hjb hja e t s ht hs
        refine .inr ⟨fun hx => ha t.b (.inl rfl) (.inl hx), fun hx => ha t.b (.inl rfl) (.inr (.inl hx)), fun hx => ha t.wb (.inr (.inl rfl)) (.inl hx), fun hx => ha t.wb (.inr (.inl rfl)) (.inr (.inl hx)), ?_⟩
        exact (h.ok jb hjb t ht).m.keep k (fun hx => ha t.b (.inl rfl) (q2 _ hx)) (fun hx => ha t.wb (.inr (.inl rfl)) (q2 _ hx))
    · rintro e w1 ⟨v, rfl, h1, h2, h3⟩
      rw [h1.uniq hu]
      exact ⟨rfl, h2, h3⟩
    · by_cases e : jb = ja
      · subst e
        rw [hs] at ht
        cases ht
        exact .inl ⟨rfl, rfl⟩
      · have ha := h.apart jb ja hjb hja e t s ht hs
        refine .inr ⟨base, t.ra, t.rc, t.n, fun hx => ha t.rb (.inr (.inr (.inl rfl))) (q2 _ hx), fun g hg hx => ha g (.inr (.inr (.inr hg))) (q2 _ hx), ?_⟩
        exact (h.ok jb hjb t ht).r.keep k (fun hx => ha t.rb (.inr (.inr (.inl rfl))) (q1 _ hx)) (fun g hg hx => ha g (.inr (.inr (.inr hg))) (q1 _ hx))
    · rintro e w1 ⟨v, rfl, h1, h2, h3⟩
      rw [h1.uniq hu]
      exact ⟨rfl, h2, h3⟩
set_option maxHeartbeats 4000000 in
set_option maxRecDepth 100000 in
theorem marks_merge (h : MPlayAt w base pb st) (kind a b n m s0 s1 s2 s3 : Int) (pg sp : Value) (hk : kind = 5) (ha : I64 a) (hb : I64 b) {s : MSlot} {ja : Nat} (hja : ja < 4) (ea : bits .and .i64 a 3 = (ja : Int)) (hst : st ja = some s) :
    Calls Tryd.prog 6 #[.pointer (some ⟨pb, 0, none⟩), .agg #[.int .i64 kind, .int .i64 a, .int .i64 b, .int .i64 n, .int .i64 m, pg, sp, .int .i64 s0, .int .i64 s1, .int .i64 s2, .int .i64 s3]] w (MStepped base pb w) := by
  obtain ⟨Q, hQ⟩ : ∃ Q, Q = MStepped base pb w := ⟨_, rfl⟩
  rw [← hQ]
  have hlt := h.lt
  have hpb : pb ≠ w.heap.size := by omega
  have hcy := h.cy hja
  have hcx := h.cx hja
  rw [hst] at hcy hcx
  simp only [ptrM, ptrR, Option.map_some] at hcy hcx
  have hja1 : (0 : Int) ≤ (ja : Int) := by omega
  have hja2 : (ja : Int) < 4 := by omega
  obtain ⟨jb, hjb, eb⟩ := slot_of b hb
  have k1 : (kind == 1) = false := by simp; omega
  have k2 : (kind == 2) = false := by simp; omega
  have k3 : (kind == 3) = false := by simp; omega
  have k4 : (kind == 4) = false := by simp; omega
  have k5 : (kind == 5) = true := by simp; omega
  have H := hide h
  have HQ := hide hQ
  have HK := hide hk
  have HA := hide ha
  have HB := hide hb
  have HST := hide hst
  clear h hQ hk ha hb hst
  go_enter Tryd.func6, Tryd.ntmps6
  go_wp2_with fail
  have hka : Kp [] w (w.alloc (.cells #[.int .i64 kind, .int .i64 a, .int .i64 b, .int .i64 n, .int .i64 m, pg, sp, .int .i64 s0, .int .i64 s1, .int .i64 s2, .int .i64 s3] 40)) := (Kp.refl _ _).alloc _
  have hba : (w.alloc (.cells #[.int .i64 kind, .int .i64 a, .int .i64 b, .int .i64 n, .int .i64 m, pg, sp, .int .i64 s0, .int .i64 s1, .int .i64 s2, .int .i64 s3] 40)).heap[w.heap.size]? = some (.cells #[.int .i64 kind, .int .i64 a, .int .i64 b, .int .i64 n, .int .i64 m, pg, sp, .int .i64 s0, .int .i64 s1, .int .i64 s2, .int .i64 s3] 40 (0, 0)) := blk_new _ _
  generalize w.alloc (.cells #[.int .i64 kind, .int .i64 a, .int .i64 b, .int .i64 n, .int .i64 m, pg, sp, .int .i64 s0, .int .i64 s1, .int .i64 s2, .int .i64 s3] 40) = wa at hka hba ⊢
  have hz3 := blk_cell hba 3
  have hz4 := blk_cell hba 4
  simp only [List.getElem?_toArray, List.getElem?_cons_succ, List.getElem?_cons_zero] at hz3 hz4
  have hp1 := H.out.keep0 hka
  have hok := hp1.ok ja hja s HST.out
  have hsa := hka.size
  have hq1 : ∀ x, x ∈ [s.b, s.wb] → s.own x := fun x hx => by simp at hx; rcases hx with rfl | rfl; exact .inl rfl; exact .inr (.inl rfl)
  have hq2 : ∀ x, x ∈ blks s.ra → s.own x := fun x hx => .inr (.inr (.inr (blks_own hx)))
  have hq3 : s.b ∉ blks s.ra ∧ s.wb ∉ blks s.ra ∧ s.rb ∉ [s.b, s.wb] := ⟨fun hx => (hok.n3 _ (blks_own hx)).1 rfl, fun hx => (hok.n3 _ (blks_own hx)).2 rfl, by have := hok.n1; have := hok.n2; simp; omega⟩
  have hq4 : ∀ g, (Value.slice s.ra s.n s.rc).ownBlock = some g → g ∉ [s.b, s.wb] := fun g hg => by have := hok.n3 g hg; simp; omega
  have hz3f : ∀ x, s.own x → x ≠ w.heap.size := fun x hx => by have := (H.out.ok ja hja s HST.out).lt x hx; omega
  have hz3b : w.heap.size ∉ [s.b, s.wb] ∧ w.heap.size ∉ blks s.ra := ⟨fun hx => hz3f _ (hq1 _ hx) rfl, fun hx => hz3f _ (hq2 _ hx) rfl⟩
  have HP1 := hide hp1
  have HKA := hide hka
  have HOK := hide hok
  have HBA := hide hba
  have HQ1 := hide hq1
  have HQ2 := hide hq2
  have HQ3 := hide hq3
  have HQ4 := hide hq4
  have HZ := hide hz3b
  clear hp1 hka hok hba hq1 hq2 hq3 hq4 hz3b
  clear hz3f
  obtain ⟨u, on', hmx1, hmx2⟩ := merges HP1.out hja hjb HST.out
  have hjb1 : (0 : Int) ≤ (jb : Int) := by omega
  have hjb2 : (jb : Int) < 4 := by omega
  have zx := HP1.out.cx hjb
  have zy := HP1.out.cy hjb
  have hpo : pb ∉ [s.b, s.wb] ∧ pb ∉ blks s.ra := ⟨fun hx => (HOK.out.lo _ (HQ1.out _ hx)).2 rfl, fun hx => (HOK.out.lo _ (HQ2.out _ hx)).2 rfl⟩
  obtain ⟨tb, htb⟩ : ∃ tb, ptrM (st jb) = tb := ⟨_, rfl⟩
  obtain ⟨tr, htr⟩ : ∃ tr, ptrR (st jb) = tr := ⟨_, rfl⟩
  rw [htb] at zx hmx1
  rw [htr] at zy hmx2
  have tb1 : tb.oneCell' = true := by rw [← htb]; rfl
  have tr1 : tr.oneCell' = true := by rw [← htr]; rfl
  have HC1 := hide hmx1
  have HC2 := hide hmx2
  have HPO := hide hpo
  clear hmx1 hmx2 hpo
  clear hz3 hz4 hcx hcy htb htr
  go_region_held3 (fun w' => w'.cell? ⟨pb, jb, none⟩ = some tb ∧ w'.cell? ⟨pb, 4 + jb, none⟩ = some tr)
    (first | exact ⟨y3, y4⟩ | exact ⟨x3, x4⟩ | exact ⟨zx, zy⟩)
    (first
      | (go_at_call 12; refine (HC1.out _ (by first | exact ((Kp.refl _ wa).drew.trans' hk2) | exact (Kp.refl _ wa).drew)).mono ?_; rintro e w1 ⟨rfl, hm1, hk1⟩; have x3 := hk1.cell (a := ⟨pb, jb, none⟩) (by first | exact y3 | exact zx) HPO.out.1; have x4 := hk1.cell (a := ⟨pb, 4 + jb, none⟩) (by first | exact y4 | exact zy) HPO.out.1)
      | (go_at_call 25; refine (HC2.out _ (by first | exact ((Kp.refl _ wa).drew.trans' hk1) | exact (Kp.refl _ wa).drew)).mono ?_; rintro e w2 ⟨rfl, hr2, hk2⟩; have y3 := hk2.cell (a := ⟨pb, jb, none⟩) (by first | exact x3 | exact zx) HPO.out.2; have y4 := hk2.cell (a := ⟨pb, 4 + jb, none⟩) (by first | exact x4 | exact zy) HPO.out.2))
  all_goals
    first
      | have HRES := hide (mstep_a HP1.out hja HST.out HQ1.out HQ2.out HQ3.out HQ4.out hm1 hk1 hr2 hk2)
      | have HRES := hide (mstep_b HP1.out hja HST.out HQ1.out HQ2.out HQ3.out HQ4.out hm1 hk1 hr2 hk2)
    clear hm1 hk1 hr2 hk2 zx zy
    go_wp2_with fail
    rw [HQ.out]
    exact HRES.out.first HKA.out
end
end Go.Proofs.YtoghdhjeopcjkaaDoor
