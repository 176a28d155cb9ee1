/- The walk of pools. Conditions: a play; a step of the script that is read. -/
import Derived.Test.YtoghdhjeopcjkaaMakes
namespace Go.Proofs.Ytoghdhjeopcjkaa
open Go.RowKit Go.Deep

def TakesX (S : Sh) (on : Nat → Bool) (c n code : Int) (ts : Sps) (on' : Nat → Bool) : Prop :=
  (∀ w b wb cap, PoolAt w b wb cap S on → Calls Try.prog 23 #[.pointer (some ⟨b, 0, none⟩), .int .i64 c, .int .i64 n] w fun e w' => ∃ v, e = .returned (.tuple #[v, .int .i64 code]) ∧ Own w' w.heap.size v ts ∧ PoolAt w' b wb cap S on' ∧ Kp [b, wb] w w') ∧
  (∀ w rb mb rc, RefAt w rb mb rc S on → Calls Try.prog 58 #[.pointer (some ⟨rb, 0, none⟩), .int .i64 c, .int .i64 n] w fun e w' => ∃ v, e = .returned (.tuple #[v, .int .i64 code]) ∧ Own w' w.heap.size v ts ∧ RefAt w' rb mb rc S on' ∧ Kp [mb] w w')
theorem takes (S : Sh) (ok : S.Ok) (on : Nat → Bool) (c n : Int) : ∃ code ts on', ts.length ≤ 1024 ∧ TakesX S on c n code ts on' := by
  by_cases h1 : c < 0 ∨ (S.cores : Int) ≤ c ∨ n < 0
  · refine ⟨52, [], on, by simp, fun w b wb cap h => (pTake_range h c n h1).mono ?_, fun w rb mb rc h => (rTake_range h c n h1).mono ?_⟩
    · rintro e w1 ⟨rfl, rfl⟩
      exact ⟨_, rfl, Own.nil _ _, h, Kp.refl _ _⟩
    · rintro e w1 ⟨rfl, rfl⟩
      exact ⟨_, rfl, Own.nil _ _, h, Kp.refl _ _⟩
  · by_cases h2 : (cnt on S.pages : Int) < n
    · refine ⟨50, [], on, by simp, fun w b wb cap h => (pTake_full h c n (by omega) (by omega) (by omega) h2).mono ?_, fun w rb mb rc h => (rTake_full h c n (by omega) (by omega) (by omega) h2).mono ?_⟩
      · rintro e w1 ⟨rfl, rfl⟩
        exact ⟨_, rfl, Own.nil _ _, h, Kp.refl _ _⟩
      · rintro e w1 ⟨rfl, rfl⟩
        exact ⟨_, rfl, Own.nil _ _, h, Kp.refl _ _⟩
    · have hcl := cnt_le on S.pages
      have hp := ok.p2
      have hl := spansOf_length ((order S on c.toNat).take n.toNat)
      have hl2 : ((order S on c.toNat).take n.toNat).length ≤ n.toNat := by rw [List.length_take]; omega
      exact ⟨0, spansOf ((order S on c.toNat).take n.toNat), minus on ((order S on c.toNat).take n.toNat), by omega, fun w b wb cap h => pTake_ok h c n c.toNat n.toNat (by omega) (by omega) (by omega) (by omega), fun w rb mb rc h => rTake_ok h c n c.toNat n.toNat (by omega) (by omega) (by omega) (by omega)⟩

def GivesX (S : Sh) (on : Nat → Bool) (l : List Int) (code : Int) (on' : Nat → Bool) : Prop :=
  (∀ w b wb cap v, PoolAt w b wb cap S on → RdIO w v l → (l ≠ [] → ∀ x, v.ownBlock = some x → x ≠ b ∧ x ≠ wb) → Calls Try.prog 27 #[.pointer (some ⟨b, 0, none⟩), v] w fun e w' => e = .returned (.int .i64 code) ∧ PoolAt w' b wb cap S on' ∧ Kp [b, wb] w w') ∧
  (∀ w rb mb rc v, RefAt w rb mb rc S on → RdI w v l → (∀ x, v.ownBlock = some x → x ≠ rb ∧ x ≠ mb ∧ x < w.heap.size) → Calls Try.prog 59 #[.pointer (some ⟨rb, 0, none⟩), v] w fun e w' => e = .returned (.int .i64 code) ∧ RefAt w' rb mb rc S on' ∧ Kp [mb] w w')
theorem gives (S : Sh) (on : Nat → Bool) (l : List Int) (hlen : l.length ≤ 140737488355328) : ∃ code on', GivesX S on l code on' := by
  by_cases h1 : inTo S l l.length
  · cases h2 : tw on l l.length with
    | true =>
      refine ⟨51, on, fun w b wb cap v h hv hvb => (pGive_anyO h v l hv hvb hlen).mono ?_, fun w rb mb rc v h hv hvb => (rGive_any h v l hv hvb hlen).mono ?_⟩
      all_goals
        rintro e w1 ⟨k, ⟨h3, _⟩ | ⟨_, _, rfl, h4⟩ | ⟨_, h3, _⟩⟩
        · exact absurd h1 h3
        · exact ⟨rfl, h4, k⟩
        · rw [h2] at h3; cases h3
    | false =>
      refine ⟨0, pl on l l.length, fun w b wb cap v h hv hvb => (pGive_anyO h v l hv hvb hlen).mono ?_, fun w rb mb rc v h hv hvb => (rGive_any h v l hv hvb hlen).mono ?_⟩
      all_goals
        rintro e w1 ⟨k, ⟨h3, _⟩ | ⟨_, h3, _⟩ | ⟨_, _, rfl, h4⟩⟩
        · exact absurd h1 h3
        · rw [h2] at h3; cases h3
        · exact ⟨rfl, h4, k⟩
  · refine ⟨52, on, fun w b wb cap v h hv hvb => (pGive_anyO h v l hv hvb hlen).mono ?_, fun w rb mb rc v h hv hvb => (rGive_any h v l hv hvb hlen).mono ?_⟩
    all_goals
      rintro e w1 ⟨k, ⟨_, rfl, h4⟩ | ⟨h3, _⟩ | ⟨h3, _⟩⟩
      · exact ⟨rfl, h4, k⟩
      · exact absurd h3 h1
      · exact absurd h3 h1

section
variable {w : World} {base pb : Nat} {st : Nat → Option Slot}
/-- The start of a step's walk: the step lies in a block of its own. -/
def opCells (kind a b n m s0 s1 s2 s3 : Int) (pg sp : Value) : Array Value := #[.int .i64 kind, .int .i64 a, .int .i64 b, .int .i64 n, .int .i64 m, pg, sp, .int .i64 s0, .int .i64 s1, .int .i64 s2, .int .i64 s3]
theorem Stepped.first {w0 w1 : World} {e : Ending} (h : Stepped base pb w1 e w0) (k : Kp [] w w1) : Stepped base pb w e w0 := by
  obtain ⟨h1, st', h2, h3⟩ := h
  exact ⟨h1, st', h2, (k.q.mono (by simp)).trans h3⟩
set_option maxHeartbeats 2000000 in
set_option maxRecDepth 100000 in
theorem pools_makes (h : PlayAt w base pb st) (kind a b n m s0 s1 s2 s3 : Int) (pg sp : Value) (sps : Sps) (hk : kind = 11 ∨ kind = 19) (ha : I64 a) (hb : I64 b) (hi : I64 s1) (hsp : RdSO w sp sps) (hcp : ∀ w', Kp [] w w' → Calls Try.prog 21 #[sp] w' fun e w'' => ∃ v', e = .returned v' ∧ Own w'' w'.heap.size v' sps ∧ Kp [] w' w'') (hlen : sps.length ≤ 8796093022208) :
    Calls Try.prog 40 #[.pointer (some ⟨pb, 0, none⟩), .agg #[.int .i64 kind, .int .i64 a, .int .i64 b, .int .i64 n, .int .i64 m, pg, sp, .int .i64 s0, .int .i64 s1, .int .i64 s2, .int .i64 s3]] w (Stepped base pb w) := by
  obtain ⟨Q, hQ⟩ : ∃ Q, Q = Stepped base pb w := ⟨_, rfl⟩
  rw [← hQ]
  rcases hk with hk | hk
  · have k1 : (kind == 11) = true := by simpa using hk
    have H := hide h
    have HQ := hide hQ
    have HK := hide hk
    have HA := hide ha
    have HB := hide hb
    have HSP := hide hsp
    have HCP := hide hcp
    have HI := hide hi
    clear h hQ hk ha hb hsp hcp hi
    go_enter Try.func40, Try.ntmps40
    go_wp2_with fail
    have hka : Kp [] w (w.alloc (.cells #[.int .i64 kind, .int .i64 a, .int .i64 b, .int .i64 n, .int .i64 m, pg, sp, .int .i64 s0, .int .i64 s1, .int .i64 s2, .int .i64 s3] 85)) := (Kp.refl _ _).alloc _
    have hba : (w.alloc (.cells #[.int .i64 kind, .int .i64 a, .int .i64 b, .int .i64 n, .int .i64 m, pg, sp, .int .i64 s0, .int .i64 s1, .int .i64 s2, .int .i64 s3] 85)).heap[w.heap.size]? = some (.cells #[.int .i64 kind, .int .i64 a, .int .i64 b, .int .i64 n, .int .i64 m, pg, sp, .int .i64 s0, .int .i64 s1, .int .i64 s2, .int .i64 s3] 85 (0, 0)) := blk_new _ _
    generalize w.alloc (.cells #[.int .i64 kind, .int .i64 a, .int .i64 b, .int .i64 n, .int .i64 m, pg, sp, .int .i64 s0, .int .i64 s1, .int .i64 s2, .int .i64 s3] 85) = wa at hka hba ⊢
    refine (makes_pool (H.out.keep0 hka) kind a b n m s0 s1 s2 s3 pg sp sps (by have := HK.out; omega) HA.out HB.out HI.out (HSP.out.keep hka (by simp)) (fun w' k => HCP.out w' (hka.trans' k)) hlen).mono ?_
    rintro e w1 ⟨rfl, st', hp, hkq⟩
    have hres : Stepped base pb w (.returned (.bool true)) w1 := Stepped.first ⟨rfl, st', hp, hkq⟩ hka
    have HRES := hide hres
    clear hres
    clear hka hba hp hkq
    go_wp2_with fail
    rw [HQ.out]
    exact HRES.out
  · have k1 : (kind == 11) = false := by simp; omega
    have k2 : (kind == 19) = true := by simpa using hk
    have H := hide h
    have HQ := hide hQ
    have HK := hide hk
    have HA := hide ha
    have HB := hide hb
    have HSP := hide hsp
    have HCP := hide hcp
    have HI := hide hi
    clear h hQ hk ha hb hsp hcp hi
    go_enter Try.func40, Try.ntmps40
    go_wp2_with fail
    have hka : Kp [] w (w.alloc (.cells #[.int .i64 kind, .int .i64 a, .int .i64 b, .int .i64 n, .int .i64 m, pg, sp, .int .i64 s0, .int .i64 s1, .int .i64 s2, .int .i64 s3] 85)) := (Kp.refl _ _).alloc _
    have hba : (w.alloc (.cells #[.int .i64 kind, .int .i64 a, .int .i64 b, .int .i64 n, .int .i64 m, pg, sp, .int .i64 s0, .int .i64 s1, .int .i64 s2, .int .i64 s3] 85)).heap[w.heap.size]? = some (.cells #[.int .i64 kind, .int .i64 a, .int .i64 b, .int .i64 n, .int .i64 m, pg, sp, .int .i64 s0, .int .i64 s1, .int .i64 s2, .int .i64 s3] 85 (0, 0)) := blk_new _ _
    generalize w.alloc (.cells #[.int .i64 kind, .int .i64 a, .int .i64 b, .int .i64 n, .int .i64 m, pg, sp, .int .i64 s0, .int .i64 s1, .int .i64 s2, .int .i64 s3] 85) = wa at hka hba ⊢
    refine (makes_copy (H.out.keep0 hka) kind a b n m s0 s1 s2 s3 pg sp HK.out HA.out HB.out).mono ?_
    rintro e w1 ⟨rfl, st', hp, hkq⟩
    have hres : Stepped base pb w (.returned (.bool true)) w1 := Stepped.first ⟨rfl, st', hp, hkq⟩ hka
    have HRES := hide hres
    clear hres
    clear hka hba hp hkq
    go_wp2_with fail
    rw [HQ.out]
    exact HRES.out

set_option maxHeartbeats 2000000 in
set_option maxRecDepth 100000 in
theorem pools_rest (h : PlayAt w base pb st) (kind a b n m s0 s1 s2 s3 : Int) (pg sp : Value) (pgs : List Int) (hk1 : kind ≠ 11) (hk2 : kind ≠ 19) (ha : I64 a) (hpg : RdIO w pg pgs) (hcp : ∀ w', Kp [] w w' → Calls Try.prog 28 #[pg] w' fun e w'' => ∃ v', e = .returned v' ∧ OwnI w'' w'.heap.size v' pgs ∧ Kp [] w' w'') (hpgb : pgs ≠ [] → ∀ x, pg.ownBlock = some x → x < base) (hlen : pgs.length ≤ 17592186044416) :
    Calls Try.prog 40 #[.pointer (some ⟨pb, 0, none⟩), .agg #[.int .i64 kind, .int .i64 a, .int .i64 b, .int .i64 n, .int .i64 m, pg, sp, .int .i64 s0, .int .i64 s1, .int .i64 s2, .int .i64 s3]] w (Stepped base pb w) := by
  obtain ⟨Q, hQ⟩ : ∃ Q, Q = Stepped base pb w := ⟨_, rfl⟩
  rw [← hQ]
  have k1 : (kind == 11) = false := by simpa using hk1
  have k2 : (kind == 19) = false := by simpa using hk2
  obtain ⟨ja, hja, ea⟩ := slot_of a ha
  have hlt := h.lt
  have hpb : pb ≠ w.heap.size := by omega
  have hcy := h.cy hja
  have hcx := h.cx hja
  have hja1 : (0 : Int) ≤ (ja : Int) := by omega
  have hja2 : (ja : Int) < 4 := by omega
  have H := hide h
  have HQ := hide hQ
  have HK1 := hide hk1
  have HK2 := hide hk2
  have HA := hide ha
  have HPG := hide hpg
  have HCP := hide hcp
  have HPGB := hide hpgb
  clear h hQ hk1 hk2 ha hpg hcp hpgb
  cases hst : st ja with
  | none =>
    rw [hst] at hcy hcx
    simp only [ptrX, ptrY, Option.map_none] at hcy hcx
    have HST := hide hst
    clear hst
    go_enter Try.func40, Try.ntmps40
    go_wp2_with fail
    have hka : Kp [] w (w.alloc (.cells #[.int .i64 kind, .int .i64 a, .int .i64 b, .int .i64 n, .int .i64 m, pg, sp, .int .i64 s0, .int .i64 s1, .int .i64 s2, .int .i64 s3] 85)) := (Kp.refl _ _).alloc _
    have hba : (w.alloc (.cells #[.int .i64 kind, .int .i64 a, .int .i64 b, .int .i64 n, .int .i64 m, pg, sp, .int .i64 s0, .int .i64 s1, .int .i64 s2, .int .i64 s3] 85)).heap[w.heap.size]? = some (.cells #[.int .i64 kind, .int .i64 a, .int .i64 b, .int .i64 n, .int .i64 m, pg, sp, .int .i64 s0, .int .i64 s1, .int .i64 s2, .int .i64 s3] 85 (0, 0)) := blk_new _ _
    generalize w.alloc (.cells #[.int .i64 kind, .int .i64 a, .int .i64 b, .int .i64 n, .int .i64 m, pg, sp, .int .i64 s0, .int .i64 s1, .int .i64 s2, .int .i64 s3] 85) = wa at hka hba ⊢
    replace hcx := hka.cell hcx (by simp)
    replace hcy := hka.cell hcy (by simp)
    have hz1 := blk_cell hba 1
    simp only [List.getElem?_toArray, List.getElem?_cons_succ, List.getElem?_cons_zero] at hz1
    have HKA := hide hka
    have HBA := hide hba
    clear hka hba
    go_quiet (fail)
    go_wp2_with fail
    have hkd := HKA.out.drewN nq
    have hbd := ((Kp.refl [] _).drewN nq).blk HBA.out (by simp)
    replace hcx := ((Kp.refl [] _).drewN nq).cell hcx (by simp)
    replace hcy := ((Kp.refl [] _).drewN nq).cell hcy (by simp)
    clear hz1
    generalize World.drewN _ nq = wc at hkd hcx hcy hbd ⊢
    have hz1 := blk_cell hbd 1
    simp only [List.getElem?_toArray, List.getElem?_cons_succ, List.getElem?_cons_zero] at hz1
    have HKD := hide hkd
    have HBD := hide hbd
    clear hkd hbd
    go_quiet (fail)
    go_wp2_with fail
    rw [HQ.out]
    exact ⟨rfl, st, H.out.keep0 (HKD.out.drewN _), ((HKD.out.drewN _).q).mono (by simp)⟩
  | some s =>
    rw [hst] at hcy hcx
    simp only [ptrX, ptrY, Option.map_some] at hcy hcx
    have hok := H.out.ok ja hja s hst
    have HST := hide hst
    have HOK := hide hok
    clear hst hok
    by_cases t12 : kind = 12
    · have k12 : (kind == 12) = true := by simpa using t12
      have T12 := hide t12
      clear t12
      go_enter Try.func40, Try.ntmps40
      go_wp2_with fail
      have hka : Kp [] w (w.alloc (.cells #[.int .i64 kind, .int .i64 a, .int .i64 b, .int .i64 n, .int .i64 m, pg, sp, .int .i64 s0, .int .i64 s1, .int .i64 s2, .int .i64 s3] 85)) := (Kp.refl _ _).alloc _
      have hba : (w.alloc (.cells #[.int .i64 kind, .int .i64 a, .int .i64 b, .int .i64 n, .int .i64 m, pg, sp, .int .i64 s0, .int .i64 s1, .int .i64 s2, .int .i64 s3] 85)).heap[w.heap.size]? = some (.cells #[.int .i64 kind, .int .i64 a, .int .i64 b, .int .i64 n, .int .i64 m, pg, sp, .int .i64 s0, .int .i64 s1, .int .i64 s2, .int .i64 s3] 85 (0, 0)) := blk_new _ _
      generalize w.alloc (.cells #[.int .i64 kind, .int .i64 a, .int .i64 b, .int .i64 n, .int .i64 m, pg, sp, .int .i64 s0, .int .i64 s1, .int .i64 s2, .int .i64 s3] 85) = wa at hka hba ⊢
      replace hcx := hka.cell hcx (by simp)
      replace hcy := hka.cell hcy (by simp)
      have hz1 := blk_cell hba 1
      simp only [List.getElem?_toArray, List.getElem?_cons_succ, List.getElem?_cons_zero] at hz1
      have HKA := hide hka
      have HBA := hide hba
      clear hka hba
      go_quiet (fail)
      go_wp2_with fail
      have hkd := HKA.out.drewN nq
      have hbd := ((Kp.refl [] _).drewN nq).blk HBA.out (by simp)
      replace hcx := ((Kp.refl [] _).drewN nq).cell hcx (by simp)
      replace hcy := ((Kp.refl [] _).drewN nq).cell hcy (by simp)
      clear hz1
      generalize World.drewN _ nq = wc at hkd hcx hcy hbd ⊢
      have hz1 := blk_cell hbd 1
      simp only [List.getElem?_toArray, List.getElem?_cons_succ, List.getElem?_cons_zero] at hz1
      have HKD := hide hkd
      have HBD := hide hbd
      clear hkd hbd
      go_quiet (fail)
      clear hz1
      have hkd2 := HKD.out.drewN nq
      have hbd2 := ((Kp.refl [] _).drewN nq).blk HBD.out (by simp)
      clear hcx hcy
      generalize World.drewN _ nq = wd at hkd2 hbd2 ⊢
      have hz0 := blk_cell hbd2 0
      have hz1 := blk_cell hbd2 1
      have hz2 := blk_cell hbd2 2
      have hz3 := blk_cell hbd2 3
      have hz4 := blk_cell hbd2 4
      have hz5 := blk_cell hbd2 5
      have hz6 := blk_cell hbd2 6
      have hz7 := blk_cell hbd2 7
      have hz8 := blk_cell hbd2 8
      have hz9 := blk_cell hbd2 9
      have hz10 := blk_cell hbd2 10
      simp only [List.getElem?_toArray, List.getElem?_cons_succ, List.getElem?_cons_zero] at hz0 hz1 hz2 hz3 hz4 hz5 hz6 hz7 hz8 hz9 hz10
      have hpd := H.out.keep0 hkd2
      have htw := (hpd.ok ja hja s HST.out)
      have hsd := hkd2.size
      have HKD2 := hide hkd2
      have HPD := hide hpd
      have HTW := hide htw
      have HBD2 := hide hbd2
      clear hkd2 hpd htw hbd2
      go_wp2_with fail
      obtain ⟨code, ts, on', htl, htx⟩ := takes s.S HOK.out.tw.pool.ok s.on n m
      have l1 := HOK.out.lt s.b (.inl rfl)
      have l2 := HOK.out.lt s.wb (.inr (.inl rfl))
      have l3 := HOK.out.lt s.rb (.inr (.inr (.inl rfl)))
      have l4 := HOK.out.lt s.mb (.inr (.inr (.inr rfl)))
      obtain ⟨n1, n2, n3, n4⟩ : s.rb ≠ s.b ∧ s.rb ≠ s.wb ∧ s.mb ≠ s.b ∧ s.mb ≠ s.wb := ⟨HOK.out.n1.symm, HOK.out.n3.symm, HOK.out.n2.symm, HOK.out.n4.symm⟩
      refine (htx.1 _ _ _ _ HTW.out.tw.pool).mono ?_
      rintro e w1 ⟨v1, rfl, ho1, hp1, hk1⟩
      have hr1 := HTW.out.tw.ref.keep hk1 (by simp; omega) (by simp; omega)
      replace hz3 := hk1.cell hz3 (by simp; omega)
      replace hz4 := hk1.cell hz4 (by simp; omega)
      have HTX := hide htx
      have HO1 := hide ho1
      have HP1 := hide hp1
      have HK1X := hide hk1
      have HR1 := hide hr1
      clear htx ho1 hp1 hk1 hr1
      clear hz0 hz1 hz2 hz5 hz6 hz7 hz8 hz9 hz10
      go_wp2_with fail
      refine (HTX.out.2 _ _ _ _ HR1.out).mono ?_
      rintro e w2 ⟨v2, rfl, ho2, hr2, hk2⟩
      have ho12 := HO1.out.keep hk2 (fun x hx => by have := HO1.out.lt x hx; simp; omega)
      have hp2 := HP1.out.keep hk2 (by simp; omega) (by simp; omega)
      have hkk : Kq s.own wd w2 := ((HK1X.out.q.mono (fun x hx => by simp at hx; rcases hx with rfl | rfl; exact .inl rfl; exact .inr (.inl rfl))).trans (hk2.q.mono (fun x hx => by simp at hx; subst hx; exact .inr (.inr (.inr rfl)))))
      have hres : ∀ z, Stepped base pb w (.returned (.bool true)) (w2.drewN z) := fun z => by
        refine Stepped.first (w1 := wd) ⟨rfl, _, HPD.out.step (w' := w2.drewN z) (s' := { s with on := on' }) hja HST.out (hkk.trans (((Kp.refl [] _).drewN z).q.mono (by simp))) ⟨rfl, rfl, rfl, rfl⟩ ⟨hp2.drewN z, hr2.keep ((Kp.refl [] _).drewN z) (by simp) (by simp)⟩, (hkk.trans (((Kp.refl [] _).drewN z).q.mono (by simp))).mono (fun x hx => (HOK.out.lo x hx).1)⟩ HKD2.out
      have HO2 := hide ho2
      have HO12 := hide ho12
      have HRES := hide hres
      clear ho2 ho12 hres
      clear hk2 hr2 hp2 hkk
      go_wp2_with fail
      refine (sameSpans_eq (l := ts) HO12.out.rd HO2.out.rd (by omega)).mono ?_
      rintro e w3 ⟨rfl, k3, rfl⟩
      go_wp2_with fail
      rw [HQ.out]
      exact HRES.out _
    have k12 : (kind == 12) = false := by simpa using t12
    have l1 := HOK.out.lt s.b (.inl rfl)
    have l2 := HOK.out.lt s.wb (.inr (.inl rfl))
    have l3 := HOK.out.lt s.rb (.inr (.inr (.inl rfl)))
    have l4 := HOK.out.lt s.mb (.inr (.inr (.inr rfl)))
    obtain ⟨n1, n2, n3, n4⟩ : s.rb ≠ s.b ∧ s.rb ≠ s.wb ∧ s.mb ≠ s.b ∧ s.mb ≠ s.wb := ⟨HOK.out.n1.symm, HOK.out.n3.symm, HOK.out.n2.symm, HOK.out.n4.symm⟩
    have b1 := (HOK.out.lo s.b (.inl rfl)).1
    have b2 := (HOK.out.lo s.wb (.inr (.inl rfl))).1
    have b3 := (HOK.out.lo s.rb (.inr (.inr (.inl rfl)))).1
    have b4 := (HOK.out.lo s.mb (.inr (.inr (.inr rfl)))).1
    by_cases t13 : kind = 13
    · have k13 : (kind == 13) = true := by simpa using t13
      have T13 := hide t13
      have T12 := hide t12
      clear t13 t12
      go_enter Try.func40, Try.ntmps40
      go_wp2_with fail
      have hka : Kp [] w (w.alloc (.cells #[.int .i64 kind, .int .i64 a, .int .i64 b, .int .i64 n, .int .i64 m, pg, sp, .int .i64 s0, .int .i64 s1, .int .i64 s2, .int .i64 s3] 85)) := (Kp.refl _ _).alloc _
      have hba : (w.alloc (.cells #[.int .i64 kind, .int .i64 a, .int .i64 b, .int .i64 n, .int .i64 m, pg, sp, .int .i64 s0, .int .i64 s1, .int .i64 s2, .int .i64 s3] 85)).heap[w.heap.size]? = some (.cells #[.int .i64 kind, .int .i64 a, .int .i64 b, .int .i64 n, .int .i64 m, pg, sp, .int .i64 s0, .int .i64 s1, .int .i64 s2, .int .i64 s3] 85 (0, 0)) := blk_new _ _
      generalize w.alloc (.cells #[.int .i64 kind, .int .i64 a, .int .i64 b, .int .i64 n, .int .i64 m, pg, sp, .int .i64 s0, .int .i64 s1, .int .i64 s2, .int .i64 s3] 85) = wa at hka hba ⊢
      replace hcx := hka.cell hcx (by simp)
      replace hcy := hka.cell hcy (by simp)
      have hz1 := blk_cell hba 1
      simp only [List.getElem?_toArray, List.getElem?_cons_succ, List.getElem?_cons_zero] at hz1
      have HKA := hide hka
      have HBA := hide hba
      clear hka hba
      go_quiet (fail)
      go_wp2_with fail
      have hkd := HKA.out.drewN nq
      have hbd := ((Kp.refl [] _).drewN nq).blk HBA.out (by simp)
      replace hcx := ((Kp.refl [] _).drewN nq).cell hcx (by simp)
      replace hcy := ((Kp.refl [] _).drewN nq).cell hcy (by simp)
      clear hz1
      generalize World.drewN _ nq = wc at hkd hcx hcy hbd ⊢
      have hz1 := blk_cell hbd 1
      simp only [List.getElem?_toArray, List.getElem?_cons_succ, List.getElem?_cons_zero] at hz1
      have HKD := hide hkd
      have HBD := hide hbd
      clear hkd hbd
      go_quiet (fail)
      clear hz1
      have hkd2 := HKD.out.drewN nq
      have hbd2 := ((Kp.refl [] _).drewN nq).blk HBD.out (by simp)
      clear hcx hcy
      generalize World.drewN _ nq = wd at hkd2 hbd2 ⊢
      have hz0 := blk_cell hbd2 0
      have hz1 := blk_cell hbd2 1
      have hz2 := blk_cell hbd2 2
      have hz3 := blk_cell hbd2 3
      have hz4 := blk_cell hbd2 4
      have hz5 := blk_cell hbd2 5
      have hz6 := blk_cell hbd2 6
      have hz7 := blk_cell hbd2 7
      have hz8 := blk_cell hbd2 8
      have hz9 := blk_cell hbd2 9
      have hz10 := blk_cell hbd2 10
      simp only [List.getElem?_toArray, List.getElem?_cons_succ, List.getElem?_cons_zero] at hz0 hz1 hz2 hz3 hz4 hz5 hz6 hz7 hz8 hz9 hz10
      have hpd := H.out.keep0 hkd2
      have htw := (hpd.ok ja hja s HST.out)
      have hsd := hkd2.size
      have HKD2 := hide hkd2
      have HPD := hide hpd
      have HTW := hide htw
      have HBD2 := hide hbd2
      clear hkd2 hpd htw hbd2
      go_wp2_with fail
      obtain ⟨code, on', hgx⟩ := gives s.S s.on pgs (by omega)
      refine (HCP.out _ HKD2.out).mono ?_
      rintro e w1 ⟨kv, rfl, ho1, hk1⟩
      have hs1 := hk1.size
      have htw1 := HTW.out.tw.keep0 hk1
      replace hz5 := hk1.cell hz5 (by simp)
      have hpg1 := HPG.out.keep (HKD2.out.trans' hk1) (by simp)
      have HGX := hide hgx
      have HO1 := hide ho1
      have HK1X := hide hk1
      have HTW1 := hide htw1
      have HPG1 := hide hpg1
      clear hgx ho1 hk1 htw1 hpg1
      clear hz0 hz1 hz2 hz3 hz4 hz6 hz7 hz8 hz9 hz10
      go_wp2_with fail
      refine (HGX.out.1 _ _ _ _ _ HTW1.out.pool HPG1.out (fun hne x hx => by have := HPGB.out hne x hx; omega)).mono ?_
      rintro e w2 ⟨rfl, hp2, hk2⟩
      have hs2 := hk2.size
      replace hz5 := hk2.cell hz5 (by simp; omega)
      have ho2 := HO1.out.keep hk2 (fun x hx => by have := (HO1.out.lt x hx).1; simp; omega)
      have hol := HO1.out.lt
      have hr2 := HTW1.out.ref.keep hk2 (by simp; omega) (by simp; omega)
      have hpg2 := HPG1.out.keep2 hk2 (fun hne x hx => by have := HPGB.out hne x hx; simp; omega)
      have HO2 := hide ho2
      have HOL := hide hol
      have HP2 := hide hp2
      have HK2X := hide hk2
      have HR2 := hide hr2
      have HPG2 := hide hpg2
      clear ho2 hol hp2 hk2 hr2 hpg2
      go_wp2_with fail
      refine (HGX.out.2 _ _ _ _ _ HR2.out HO2.out.rd (fun x hx => by have := HOL.out x hx; omega)).mono ?_
      rintro e w3 ⟨rfl, hr3, hk3⟩
      replace hz5 := hk3.cell hz5 (by simp; omega)
      have ho3 := HO2.out.keep hk3 (fun x hx => by have := (HOL.out x hx).1; simp; omega)
      have hpg3 := HPG2.out.keep2 hk3 (fun hne x hx => by have := HPGB.out hne x hx; simp; omega)
      have hp3 := HP2.out.keep hk3 (by simp; omega) (by simp; omega)
      have hkk : Kq s.own wd w3 := (HK1X.out.q.mono (by simp)).trans ((HK2X.out.q.mono (fun x hx => by simp at hx; rcases hx with rfl | rfl; exact .inl rfl; exact .inr (.inl rfl))).trans (hk3.q.mono (fun x hx => by simp at hx; subst hx; exact .inr (.inr (.inr rfl)))))
      have hres : ∀ z, Stepped base pb w (.returned (.bool true)) (w3.drewN z) := fun z => by
        refine Stepped.first (w1 := wd) ⟨rfl, _, HPD.out.step (w' := w3.drewN z) (s' := { s with on := on' }) hja HST.out (hkk.trans (((Kp.refl [] _).drewN z).q.mono (by simp))) ⟨rfl, rfl, rfl, rfl⟩ ⟨hp3.drewN z, hr3.keep ((Kp.refl [] _).drewN z) (by simp) (by simp)⟩, (hkk.trans (((Kp.refl [] _).drewN z).q.mono (by simp))).mono (fun x hx => (HOK.out.lo x hx).1)⟩ HKD2.out
      have HO3 := hide ho3
      have HPG3 := hide hpg3
      have HRES := hide hres
      clear ho3 hpg3 hres
      clear hk3 hr3 hp3 hkk
      go_wp2_with fail
      refine (sameInts_eqO (l := pgs) HPG3.out HO3.out.rd.o (by omega)).mono ?_
      rintro e w4 ⟨rfl, k4, rfl⟩
      go_wp2_with fail
      rw [HQ.out]
      exact HRES.out _
    have k13 : (kind == 13) = false := by simpa using t13
    have T13 := hide t13
    have T12 := hide t12
    clear t13 t12
    go_enter Try.func40, Try.ntmps40
    go_wp2_with fail
    have hka : Kp [] w (w.alloc (.cells #[.int .i64 kind, .int .i64 a, .int .i64 b, .int .i64 n, .int .i64 m, pg, sp, .int .i64 s0, .int .i64 s1, .int .i64 s2, .int .i64 s3] 85)) := (Kp.refl _ _).alloc _
    have hba : (w.alloc (.cells #[.int .i64 kind, .int .i64 a, .int .i64 b, .int .i64 n, .int .i64 m, pg, sp, .int .i64 s0, .int .i64 s1, .int .i64 s2, .int .i64 s3] 85)).heap[w.heap.size]? = some (.cells #[.int .i64 kind, .int .i64 a, .int .i64 b, .int .i64 n, .int .i64 m, pg, sp, .int .i64 s0, .int .i64 s1, .int .i64 s2, .int .i64 s3] 85 (0, 0)) := blk_new _ _
    generalize w.alloc (.cells #[.int .i64 kind, .int .i64 a, .int .i64 b, .int .i64 n, .int .i64 m, pg, sp, .int .i64 s0, .int .i64 s1, .int .i64 s2, .int .i64 s3] 85) = wa at hka hba ⊢
    replace hcx := hka.cell hcx (by simp)
    replace hcy := hka.cell hcy (by simp)
    have hz1 := blk_cell hba 1
    simp only [List.getElem?_toArray, List.getElem?_cons_succ, List.getElem?_cons_zero] at hz1
    have HKA := hide hka
    have HBA := hide hba
    clear hka hba
    go_quiet (fail)
    go_wp2_with fail
    have hkd := HKA.out.drewN nq
    have hbd := ((Kp.refl [] _).drewN nq).blk HBA.out (by simp)
    replace hcx := ((Kp.refl [] _).drewN nq).cell hcx (by simp)
    replace hcy := ((Kp.refl [] _).drewN nq).cell hcy (by simp)
    clear hz1
    generalize World.drewN _ nq = wc at hkd hcx hcy hbd ⊢
    have hz1 := blk_cell hbd 1
    simp only [List.getElem?_toArray, List.getElem?_cons_succ, List.getElem?_cons_zero] at hz1
    have HKD := hide hkd
    have HBD := hide hbd
    clear hkd hbd
    go_quiet (fail)
    clear hz1
    have hkd2 := HKD.out.drewN nq
    have hbd2 := ((Kp.refl [] _).drewN nq).blk HBD.out (by simp)
    clear hcx hcy
    generalize World.drewN _ nq = wd at hkd2 hbd2 ⊢
    have hz0 := blk_cell hbd2 0
    have hz1 := blk_cell hbd2 1
    have hz2 := blk_cell hbd2 2
    have hz3 := blk_cell hbd2 3
    have hz4 := blk_cell hbd2 4
    have hz5 := blk_cell hbd2 5
    have hz6 := blk_cell hbd2 6
    have hz7 := blk_cell hbd2 7
    have hz8 := blk_cell hbd2 8
    have hz9 := blk_cell hbd2 9
    have hz10 := blk_cell hbd2 10
    simp only [List.getElem?_toArray, List.getElem?_cons_succ, List.getElem?_cons_zero] at hz0 hz1 hz2 hz3 hz4 hz5 hz6 hz7 hz8 hz9 hz10
    have hpd := H.out.keep0 hkd2
    have htw := (hpd.ok ja hja s HST.out)
    have hsd := hkd2.size
    have HKD2 := hide hkd2
    have HPD := hide hpd
    have HTW := hide htw
    have HBD2 := hide hbd2
    clear hkd2 hpd htw hbd2
    go_wp2_with fail
    refine (looks_ok HTW.out.tw kind a b n m s0 s1 s2 s3 pg sp).mono ?_
    rintro e w1 ⟨rfl, hk1⟩
    have hres : Stepped base pb w (.returned (.bool true)) w1 := Stepped.first (w1 := wd) ⟨rfl, st, HPD.out.keep0 hk1, hk1.q.mono (by simp)⟩ HKD2.out
    have HRES := hide hres
    clear hres
    clear hk1 hz0 hz1 hz2 hz3 hz4 hz5 hz6 hz7 hz8 hz9 hz10
    go_wp2_with fail
    rw [HQ.out]
    exact HRES.out
end
end Go.Proofs.Ytoghdhjeopcjkaa
