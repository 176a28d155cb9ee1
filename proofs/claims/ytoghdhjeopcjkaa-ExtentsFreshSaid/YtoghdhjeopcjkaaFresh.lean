/- ExtentsFresh: the walk: whatever the input, it answers true. Conditions: numbers of an int; the moves can be read. -/
import Derived.Test.YtoghdhjeopcjkaaFreshH
namespace Go.Proofs.Ytoghdhjeopcjkaa
open Go.RowKit Go.Deep

set_option maxHeartbeats 4000000 in
set_option maxRecDepth 100000 in
theorem fresh_walk (p c co n : Int) (v : Value) (l : List Mv) (w : World) (hp : I64 p) (hc : I64 c) (hco : I64 co) (hn : I64 n) (hv : RdM w v l) (hvl : ∀ x, v.ownBlock = some x → x < w.heap.size) (hlen : l.length ≤ 9223372036854775807) :
    Calls Try.prog 10 #[.int .i64 p, .int .i64 c, v, .int .i64 co, .int .i64 n] w fun e w' => e = .returned (.bool true) ∧ Kp [] w w' := by
  have hdI : I64 (p.tdiv 3) := tdiv_i64 hp 3 (by omega)
  obtain ⟨S, hS⟩ : ∃ S, S = shp p (p.tdiv 3) c := ⟨_, rfl⟩
  have ok : S.Ok := by rw [hS]; exact shp_ok _ _ _
  have o1 := ok.p2; have o2 := ok.c1; have o3 := ok.c2; have o4 := ok.d2
  obtain ⟨hp1, hp2⟩ := hp
  have hp : I64 p := ⟨hp1, hp2⟩
  have HP := hide hp
  have HC := hide hc
  have HCO := hide hco
  have HN := hide hn
  have HS := hide hS
  have OK := hide ok
  have HV := hide hv
  have HVL := hide hvl
  have HD := hide hdI
  clear hp hc hco hn hS ok hv hvl hdI
  go_enter Try.func10, Try.ntmps10
  go_wp2_with fail
  refine (shape_any _ _ _ HP.out HD.out HC.out _).mono ?_
  rw [← HS.out]
  rintro e w1 ⟨rfl, hk1⟩
  have hsh1 : ShAt (w1.alloc (.cells #[.int .i64 S.pages, .int .i64 S.inodes, .int .i64 S.cores, .int .i64 S.data] 23)) w1.heap.size S := blk_new _ _
  have hc1 := hsh1.cells
  have hkw1 : Kp [] w (w1.alloc (.cells #[.int .i64 S.pages, .int .i64 S.inodes, .int .i64 S.cores, .int .i64 S.data] 23)) := hk1.alloc _
  have HSH1 := hide hsh1
  have HKW1 := hide hkw1
  clear hsh1 hkw1
  clear hk1
  go_wp2_with fail
  go_region_held3 (fun w' => w'.cell? ⟨w1.heap.size, 0, none⟩ = some (.int .i64 S.pages) ∧ w'.cell? ⟨w1.heap.size, 1, none⟩ = some (.int .i64 S.inodes) ∧ w'.cell? ⟨w1.heap.size, 2, none⟩ = some (.int .i64 S.cores) ∧ w'.cell? ⟨w1.heap.size, 3, none⟩ = some (.int .i64 S.data))
    (first | exact z4 | exact z3 | exact hc1)
    (first
      | (go_at_call 19; refine (whole_any _ _ _ _ (by omega) (by omega) (by omega) _).mono ?_; rintro e w3 ⟨v3, rfl, hown3, hk3⟩; have hsh3 := HSH1.out.keep ((Kp.refl [] _).drew.trans' hk3) (by simp); have z3 := hsh3.cells; have HO3 := hide hown3; have HSH3 := hide hsh3; have HK3 := hide hk3; clear hown3 hsh3 hk3)
      | (go_at_call 14; refine (newPool_whole OK.out HO3.out).mono ?_; rintro e w4 ⟨pb, wb, cap, rfl, hpb, hwb, hpool, hk4⟩; have hsh4 := HSH3.out.keep hk4 (by simp); have z4 := hsh4.cells))
  have hk04 : Kp [] w w4 := HKW1.out.trans' ((Kp.refl [] _).drew.trans' (HK3.out.trans' hk4))
  have hs34 := (HKW1.out.trans' ((Kp.refl [] _).drew.trans' HK3.out)).size
  have hpl := hpool.m.lt
  have hwl := hpool.m.wlt
  have hmk := run_make_row' (P := Try.prog) 40 4 (.bool false) 1 Try.underlying40 Try.info_bool rfl .i64 .i64 S.pages (by omega) (by omega)
  obtain ⟨z40, z41, z42, z43⟩ := z4
  have hsl4 := blk_lt hsh4
  have HPOOL := hide hpool
  have HK04 := hide hk04
  have HSH4 := hide hsh4
  clear hpool hk04 hsh4
  clear hk4 z3 hc1
  go_wp2_with fail
  go_region_held3 (fun w' => w'.cell? ⟨w1.heap.size, 0, none⟩ = some (.int .i64 S.pages) ∧ w'.cell? ⟨w1.heap.size, 1, none⟩ = some (.int .i64 S.inodes) ∧ w'.cell? ⟨w1.heap.size, 2, none⟩ = some (.int .i64 S.cores) ∧ w'.cell? ⟨w1.heap.size, 3, none⟩ = some (.int .i64 S.data))
    (first | exact ⟨z40, z41, z42, z43⟩ | exact blk4 (blk_alloc HSH4.out _) | exact blk4 (blk_alloc (blk_alloc HSH4.out _) _))
    (fail)
  clear hmk
  have hb1 : ((w4.alloc (.cells (madeCells #[.bool false] S.pages) 4)).alloc (.cells #[.int .i64 S.pages, .int .i64 S.inodes, .int .i64 S.cores, .int .i64 S.data, .slice (some ⟨w4.heap.size, 0, none⟩) S.pages S.pages, .int .i64 0] 42)).heap[w4.heap.size + 1]? = some (.cells #[.int .i64 S.pages, .int .i64 S.inodes, .int .i64 S.cores, .int .i64 S.data, .slice (some ⟨w4.heap.size, 0, none⟩) S.pages S.pages, .int .i64 0] 42 (0, 0)) := blk_new' (by simp) _
  have hkb : Kp [] w4 ((w4.alloc (.cells (madeCells #[.bool false] S.pages) 4)).alloc (.cells #[.int .i64 S.pages, .int .i64 S.inodes, .int .i64 S.cores, .int .i64 S.data, .slice (some ⟨w4.heap.size, 0, none⟩) S.pages S.pages, .int .i64 0] 42)) := ((Kp.refl [] w4).alloc _).alloc _
  have hbo : Both ((w4.alloc (.cells (madeCells #[.bool false] S.pages) 4)).alloc (.cells #[.int .i64 S.pages, .int .i64 S.inodes, .int .i64 S.cores, .int .i64 S.data, .slice (some ⟨w4.heap.size, 0, none⟩) S.pages S.pages, .int .i64 0] 42)) pb wb cap (w4.heap.size + 1) w4.heap.size S (fun _ => false) :=
    ⟨HPOOL.out.keep hkb (by simp) (by simp), book_new hb1 (blk_alloc (blk_new _ _) _) (by omega), fun i hi => by simp at hi, by omega, by omega, by omega, by omega⟩
  generalize hW : (w4.alloc (.cells (madeCells #[.bool false] S.pages) 4)).alloc (.cells #[.int .i64 S.pages, .int .i64 S.inodes, .int .i64 S.cores, .int .i64 S.data, .slice (some ⟨w4.heap.size, 0, none⟩) S.pages S.pages, .int .i64 0] 42) = w5 at hbo hkb ⊢
  have hk05 := HK04.out.trans' hkb
  have hsh5 := HSH4.out.keep hkb (by simp)
  have hs5 := hkb.size
  have hs04 := HK04.out.size
  have HBO := hide hbo
  have HK05 := hide hk05
  have HSH5 := hide hsh5
  clear hbo hk05 hsh5
  clear hkb hb1 hW z40 z41 z42 z43
  have hs13 := blk_lt HSH3.out
  have hs05 := HK05.out.size
  go_wp2_with fail
  refine (first_any _).mono ?_
  rintro e wf ⟨rfl, hkf⟩
  have hk5f : Kp [] w5 wf := (by first | exact (Kp.refl _ _).drewN _ | exact (Kp.refl _ _).drew : Kp [] w5 _).trans' hkf
  have HK5F := hide hk5f
  clear hk5f
  clear hkf
  go_wp2_with fail
  refine (played_any (HBO.out.keep0 HK5F.out) v l (HV.out.keep (HK05.out.trans' HK5F.out) (by simp)) (fun x hx => by have := HVL.out x hx; omega) hlen).mono ?_
  rintro e y0 ⟨rfl, held, hbo6, hk6⟩
  have hk56 : Kp [pb, wb, w4.heap.size + 1, w4.heap.size] w5 y0 := (HK5F.out.mono (by simp)).trans' hk6
  have hs50 := hk56.size
  have hkw0 : Kp [] w y0 := HK05.out.trans hk56 (by simp; omega)
  obtain ⟨s0, s1, s2, s3⟩ := (HSH5.out.keep hk56 (by simp; omega)).cells
  have hw0 := hkw0.size
  have hbb0 := hbo6.book.lt
  have hbh0 := hbo6.book.hlt
  have hpb0 := hbo6.pool.m.lt
  have hpw0 := hbo6.pool.m.wlt
  have n1' := hbo6.ne1; have n2' := hbo6.ne2; have n3' := hbo6.ne3; have n4' := hbo6.ne4
  have hp0 := hbo6.pool
  have hbk0 := hbo6.book
  have hcf := cnt_free hbo6.area
  have hcl := cnt_le held S.pages
  have hfl : (freeL S held).length = cnt (freeOf S held) S.pages := by rcases freeL_length (S := S) (held := held) with h | h; exact h; omega
  have ok9 := OK.out
  obtain ⟨c1, hc1⟩ : ∃ c1 : Nat, co % (S.cores : Int) = (c1 : Int) := ⟨(co % (S.cores : Int)).toNat, by have := Int.emod_nonneg co (show (S.cores : Int) ≠ 0 by omega); omega⟩
  have hc1b : c1 < S.cores := by have := Int.emod_lt_of_pos co (show (0 : Int) < (S.cores : Int) by omega); omega
  obtain ⟨fl, hfc⟩ : ∃ fl, cnt (freeOf S held) S.pages = fl := ⟨_, rfl⟩
  obtain ⟨n1, hn1⟩ : ∃ n1 : Nat, n % ((fl : Int) + 1) = (n1 : Int) := ⟨(n % ((fl : Int) + 1)).toNat, by have := Int.emod_nonneg n (show ((fl : Int) + 1) ≠ 0 by omega); omega⟩
  have hn1b : n1 ≤ fl := by have := Int.emod_lt_of_pos n (show (0 : Int) < ((fl : Int) + 1) by omega); omega
  have hflb : fl ≤ 1024 := by omega
  obtain ⟨FL, hFLE⟩ : ∃ FL, freeL S held = FL := ⟨_, rfl⟩
  obtain ⟨AL, hALE⟩ : ∃ AL, areaPg S (freeOf S held) c1 = AL := ⟨_, rfl⟩
  have hFL2 : FL.length = fl := by rw [← hFLE, hfl, hfc]
  have hFB : ∀ i ∈ FL, i < 1024 := fun i hi => by rw [← hFLE] at hi; have := freeOf_true.1 (mem_freeL.1 hi); omega
  obtain ⟨ln, hln⟩ : ∃ ln, (spansOf FL).length = ln := ⟨_, rfl⟩
  have hlnb : ln ≤ 1024 := by have := spansOf_length FL; omega
  obtain ⟨mn, hmn⟩ : ∃ mn, (spansOf AL).length = mn := ⟨_, rfl⟩
  have hmnb : mn ≤ 1024 := by
    have := spansOf_length AL
    have h2 := List.length_filter_le (freeOf S held) (List.range' (S.lo c1) (S.lo (c1 + 1) - S.lo c1))
    rw [List.length_range'] at h2
    have h3 := Sh.lo_bd ok9 (c1 + 1) (by omega)
    have h4 : AL.length ≤ S.lo (c1 + 1) - S.lo c1 := by rw [← hALE]; exact h2
    omega
  obtain ⟨P, hPP⟩ : ∃ P, (order S (freeOf S held) c1).take n1 = P := ⟨_, rfl⟩
  have hta := take_told (held := held) (n := n1) ok9 hc1b
  have hPL : P.length = n1 := by
    rw [← hPP, List.length_take, order_length (on := freeOf S held) ok9 hc1b (fun i hi => freeOf_low hi), hfc, Nat.min_eq_left hn1b]
  rw [hPP] at hta
  have hPB : ∀ i ∈ P, i < 1024 := fun i hi => by have := hta.2 i hi; omega
  obtain ⟨pn, hpn⟩ : ∃ pn, (spansOf P).length = pn := ⟨_, rfl⟩
  have hpnb : pn ≤ 1024 := by have := spansOf_length P; omega
  obtain ⟨qv, hqv⟩ : ∃ qv, fl - n1 = qv := ⟨_, rfl⟩
  have hfq : cnt (freeOf S (plus held P)) S.pages = qv := by rw [cnt_left hbo6.area hta.1 hta.2, hfc, hPL, hqv]
  obtain ⟨Q, hQQ⟩ : ∃ Q, (order S (freeOf S (plus held P)) c1).take qv = Q := ⟨_, rfl⟩
  have htq := take_told (held := plus held P) (n := qv) ok9 hc1b
  have hQL : Q.length = qv := by
    rw [← hQQ, List.length_take, order_length (on := freeOf S (plus held P)) ok9 hc1b (fun i hi => freeOf_low hi), hfq, Nat.min_self]
  rw [hQQ] at htq
  have hQB : ∀ i ∈ Q, i < 1024 := fun i hi => by have := htq.2 i hi; omega
  obtain ⟨qn, hqn⟩ : ∃ qn, (spansOf Q).length = qn := ⟨_, rfl⟩
  have hqnb : qn ≤ 1024 := by have := spansOf_length Q; omega
  have hf0 : cnt (freeOf S (plus (plus held P) Q)) S.pages = 0 := by
    rw [cnt_left (hbo6.area.plus fun i hi => ⟨(hta.2 i hi).1, (hta.2 i hi).2.1⟩) htq.1 htq.2, hfq, hQL, Nat.sub_self]
  have hqh : ∀ i ∈ Q, held i = false ∧ i ∉ P := fun i hi => by
    have := (htq.2 i hi).2.2
    simp only [plus, Bool.or_eq_false_iff] at this
    exact ⟨this.1, by simpa using this.2⟩
  have hback1 : ∀ i ∈ P, S.data ≤ i ∧ i < S.pages ∧ plus (plus held P) Q i = true := fun i hi => ⟨(hta.2 i hi).1, (hta.2 i hi).2.1, by simp [plus, hi]⟩
  have hback2 : ∀ i ∈ Q, S.data ≤ i ∧ i < S.pages ∧ minus (plus (plus held P) Q) P i = true := fun i hi => ⟨(htq.2 i hi).1, (htq.2 i hi).2.1, by simp [minus, plus, hi, (hqh i hi).2]⟩
  have hback3 := minus_two (held := held) (P := P) (Q := Q) (fun i hi => (hta.2 i hi).2.2) (fun i hi => (hqh i hi).1)
  have hsum : ((n1 : Int) + (qv : Int) != (fl : Int)) = false := by simp; omega
  have hqvb : qv ≤ 1024 := by omega
  have HP0 := hide hp0
  have HBK0 := hide hbk0
  have HKW0 := hide hkw0
  have HC1 := hide hc1
  have HFC := hide hfc
  have HN1 := hide hn1
  have HFLE := hide hFLE
  have HALE := hide hALE
  have HFL2 := hide hFL2
  have HFB := hide hFB
  have HLN := hide hln
  have HMN := hide hmn
  have HPP := hide hPP
  have HTA := hide hta
  have HPL := hide hPL
  have HPB := hide hPB
  have HPN := hide hpn
  have HFQ := hide hfq
  have HQQ := hide hQQ
  have HTQ := hide htq
  have HQL := hide hQL
  have HQB := hide hQB
  have HQN := hide hqn
  have HF0 := hide hf0
  have HBACK1 := hide hback1
  have HBACK2 := hide hback2
  have HBACK3 := hide hback3
  clear hp0 hbk0 hkw0 hc1 hfc hn1 hFLE hALE hFL2 hFB hln hmn hPP hta hPL hPB hpn hfq hQQ htq hQL hQB hqn hf0 hback1 hback2 hback3
  clear hk6 hk56 hcf hfl hqh hbo6 hqv ok9
  go_wp2_with fail
  refine (place_any _ _ (by omega) (by omega) HCO.out.swap _).mono ?_
  rw [HC1.out]
  rintro e _ ⟨rfl, rfl⟩
  go_wp2_with fail
  refine (pSpans_any HP0.out).mono ?_
  rw [runs_free, HFLE.out]
  rintro e y1 ⟨v1, rfl, ho1, hk1⟩
  have hs1 := hk1.size
  have HS0 := hide hk1.q0
  clear hk1
  have hlt1 := ho1.lt
  obtain ⟨b1, d1, hv1⟩ := ho1.form
  rw [HLN.out] at hv1
  subst hv1
  have HO1 := hide ho1
  have HLT1 := hide hlt1
  clear ho1 hlt1
  go_wp2_with fail
  refine (pCore_in (HP0.out.keepq HS0.out (fun hS => by first | exact False.elim hS | omega | (simp only [false_or, or_false, or_self] at hS <;> omega)) (fun hS => by first | exact False.elim hS | omega | (simp only [false_or, or_false, or_self] at hS <;> omega))) _ c1 rfl hc1b).mono ?_
  rw [runs_area, HALE.out]
  rintro e y2 ⟨v2, rfl, ho2, hk2⟩
  have hs2 := hk2.size
  have HS1 := hide hk2.q0
  clear hk2
  have hlt2 := ho2.lt
  obtain ⟨b2, d2, hv2⟩ := ho2.form
  rw [HMN.out] at hv2
  subst hv2
  have HO2 := hide ho2
  have HLT2 := hide hlt2
  clear ho2 hlt2
  go_wp2_with fail
  refine (copySpans_any (HO1.out.keepq HS1.out (fun x hx hS => by have := HLT1.out x hx; first | exact False.elim hS | omega | (simp only [false_or, or_false, or_self] at hS <;> omega))).src (by rw [HLN.out]; omega)).mono ?_
  rintro e y3 ⟨v3, rfl, ho3, hk3⟩
  have hs3 := hk3.size
  have HS2 := hide hk3.q0
  clear hk3
  have hlt3 := ho3.lt
  obtain ⟨b3, d3, hv3⟩ := ho3.form
  rw [HLN.out] at hv3
  subst hv3
  have HO3 := hide ho3
  have HLT3 := hide hlt3
  clear ho3 hlt3
  go_wp2_with fail
  refine (copySpans_any (HO2.out.keepq HS2.out (fun x hx hS => by have := HLT2.out x hx; first | exact False.elim hS | omega | (simp only [false_or, or_false, or_self] at hS <;> omega))).src (by rw [HMN.out]; omega)).mono ?_
  rintro e y4 ⟨v4, rfl, ho4, hk4⟩
  have hs4 := hk4.size
  have HS3 := hide hk4.q0
  clear hk4
  have hlt4 := ho4.lt
  obtain ⟨b4, d4, hv4⟩ := ho4.form
  rw [HMN.out] at hv4
  subst hv4
  have HO4 := hide ho4
  have HLT4 := hide hlt4
  clear ho4 hlt4
  go_wp2_with fail
  refine (pSpans_any (HP0.out.keepq (HS0.out.trans2 (HS1.out.trans2 (HS2.out.trans2 HS3.out))) (fun hS => by first | exact False.elim hS | omega | (simp only [false_or, or_false, or_self] at hS <;> omega)) (fun hS => by first | exact False.elim hS | omega | (simp only [false_or, or_false, or_self] at hS <;> omega)))).mono ?_
  rw [runs_free, HFLE.out]
  rintro e y5 ⟨v5, rfl, ho5, hk5⟩
  have hs5 := hk5.size
  have HS4 := hide hk5.q0
  clear hk5
  have hlt5 := ho5.lt
  obtain ⟨b5, d5, hv5⟩ := ho5.form
  rw [HLN.out] at hv5
  subst hv5
  have HO5 := hide ho5
  have HLT5 := hide hlt5
  clear ho5 hlt5
  go_wp2_with fail
  refine (pCore_in (HP0.out.keepq (HS0.out.trans2 (HS1.out.trans2 (HS2.out.trans2 (HS3.out.trans2 HS4.out)))) (fun hS => by first | exact False.elim hS | omega | (simp only [false_or, or_false, or_self] at hS <;> omega)) (fun hS => by first | exact False.elim hS | omega | (simp only [false_or, or_false, or_self] at hS <;> omega))) _ c1 rfl hc1b).mono ?_
  rw [runs_area, HALE.out]
  rintro e y6 ⟨v6, rfl, ho6, hk6⟩
  have hs6 := hk6.size
  have HS5 := hide hk6.q0
  clear hk6
  have hlt6 := ho6.lt
  obtain ⟨b6, d6, hv6⟩ := ho6.form
  rw [HMN.out] at hv6
  subst hv6
  have HO6 := hide ho6
  have HLT6 := hide hlt6
  clear ho6 hlt6
  go_wp2_with fail
  refine (spoil_any (HO1.out.keepq (HS1.out.trans2 (HS2.out.trans2 (HS3.out.trans2 (HS4.out.trans2 HS5.out)))) (fun x hx hS => by have := HLT1.out x hx; first | exact False.elim hS | omega | (simp only [false_or, or_false, or_self] at hS <;> omega))) (-11) (by rw [HLN.out]; omega) (by omega)).mono ?_
  rw [HLN.out]
  rintro e y7 ⟨_, a7, c7, rfl, rfl, hr7, hm7, hk7, hb7⟩
  have hk7b : Kq (fun x => y0.heap.size ≤ x ∧ x < y1.heap.size) y6 y7 := hk7.mono fun x hx => HLT1.out x hx
  have hs7 := hk7b.size
  have hb7b : ∀ x, (Value.slice a7 (ln + 1) c7).ownBlock = some x → ((y0.heap.size ≤ x ∧ x < y1.heap.size) ∨ y6.heap.size ≤ x) ∧ x < y7.heap.size := fun x hx => ⟨(hb7 x hx).1.imp (fun h => HLT1.out x h) id, (hb7 x hx).2⟩
  have HR7 := hide hr7
  have HM7 := hide hm7
  have HS6 := hide hk7b
  have HB7 := hide hb7b
  clear hr7 hm7 hk7b hb7b
  clear hk7 hb7
  go_wp2_with fail
  have hz8 := blk_new y7 (.cells #[.slice b1 ln d1, .slice a7 (ln + 1) c7, .int .i64 (-11)] 67)
  have hk8 : Kp [] y7 (y7.alloc (.cells #[.slice b1 ln d1, .slice a7 (ln + 1) c7, .int .i64 (-11)] 67)) := (Kp.refl _ _).alloc _
  generalize y7.alloc (.cells #[.slice b1 ln d1, .slice a7 (ln + 1) c7, .int .i64 (-11)] 67) = y8 at hz8 hk8 ⊢
  have hkb8 := blk_lt hz8
  have hs8 := hk8.size
  have HS7 := hide hk8.q0
  clear hk8
  have HZ8 := hide hz8
  clear hz8
  go_wp2_with fail
  refine (spoil_any (HO2.out.keepq (HS2.out.trans2 (HS3.out.trans2 (HS4.out.trans2 (HS5.out.trans2 (HS6.out.trans2 HS7.out))))) (fun x hx hS => by have := HLT2.out x hx; first | exact False.elim hS | omega | (simp only [false_or, or_false, or_self] at hS <;> omega))) (-12) (by rw [HMN.out]; omega) (by omega)).mono ?_
  rw [HMN.out]
  rintro e y9 ⟨_, a9, c9, rfl, rfl, hr9, hm9, hk9, hb9⟩
  have hk9b : Kq (fun x => y1.heap.size ≤ x ∧ x < y2.heap.size) y8 y9 := hk9.mono fun x hx => HLT2.out x hx
  have hs9 := hk9b.size
  have hb9b : ∀ x, (Value.slice a9 (mn + 1) c9).ownBlock = some x → ((y1.heap.size ≤ x ∧ x < y2.heap.size) ∨ y8.heap.size ≤ x) ∧ x < y9.heap.size := fun x hx => ⟨(hb9 x hx).1.imp (fun h => HLT2.out x h) id, (hb9 x hx).2⟩
  have HR9 := hide hr9
  have HM9 := hide hm9
  have HS8 := hide hk9b
  have HB9 := hide hb9b
  clear hr9 hm9 hk9b hb9b
  clear hk9 hb9
  go_wp2_with fail
  have hz10 := blk_new y9 (.cells #[.slice b2 mn d2, .slice a9 (mn + 1) c9, .int .i64 (-12)] 67)
  have hk10 : Kp [] y9 (y9.alloc (.cells #[.slice b2 mn d2, .slice a9 (mn + 1) c9, .int .i64 (-12)] 67)) := (Kp.refl _ _).alloc _
  generalize y9.alloc (.cells #[.slice b2 mn d2, .slice a9 (mn + 1) c9, .int .i64 (-12)] 67) = y10 at hz10 hk10 ⊢
  have hkb10 := blk_lt hz10
  have hs10 := hk10.size
  have HS9 := hide hk10.q0
  clear hk10
  have HZ10 := hide hz10
  clear hz10
  go_wp2_with fail
  refine (sameSpans_k (HO5.out.keepq (HS5.out.trans2 (HS6.out.trans2 (HS7.out.trans2 (HS8.out.trans2 HS9.out)))) (fun x hx hS => by have := HLT5.out x hx; first | exact False.elim hS | omega | (simp only [false_or, or_false, or_self] at hS <;> omega))).rd (HO3.out.keepq (HS3.out.trans2 (HS4.out.trans2 (HS5.out.trans2 (HS6.out.trans2 (HS7.out.trans2 (HS8.out.trans2 HS9.out)))))) (fun x hx hS => by have := HLT3.out x hx; first | exact False.elim hS | omega | (simp only [false_or, or_false, or_self] at hS <;> omega))).rd (by rw [HLN.out]; omega)).mono ?_
  rintro e y11 ⟨rfl, hk11⟩
  have hs11 := hk11.size
  have HS10 := hide hk11.q0
  clear hk11
  go_wp2_with fail
  refine (sameSpans_k (HO6.out.keepq (HS6.out.trans2 (HS7.out.trans2 (HS8.out.trans2 (HS9.out.trans2 HS10.out)))) (fun x hx hS => by have := HLT6.out x hx; first | exact False.elim hS | omega | (simp only [false_or, or_false, or_self] at hS <;> omega))).rd (HO4.out.keepq (HS4.out.trans2 (HS5.out.trans2 (HS6.out.trans2 (HS7.out.trans2 (HS8.out.trans2 (HS9.out.trans2 HS10.out)))))) (fun x hx hS => by have := HLT4.out x hx; first | exact False.elim hS | omega | (simp only [false_or, or_false, or_self] at hS <;> omega))).rd (by rw [HMN.out]; omega)).mono ?_
  rintro e y12 ⟨rfl, hk12⟩
  have hs12 := hk12.size
  have HS11 := hide hk12.q0
  clear hk12
  obtain ⟨z1_12a, z1_12b, z1_12c⟩ := blk3 ((HS8.out.trans2 (HS9.out.trans2 (HS10.out.trans2 HS11.out))).blk HZ8.out (fun hS => by first | exact False.elim hS | omega | (simp only [false_or, or_false, or_self] at hS <;> omega)))
  go_wp2_with fail
  refine (spoilt_ok (HR7.out.keepq (HS7.out.trans2 (HS8.out.trans2 (HS9.out.trans2 (HS10.out.trans2 HS11.out)))) (fun x hx hS => by have := HLT1.out x hx; first | exact False.elim hS | omega | (simp only [false_or, or_false, or_self] at hS <;> omega))) (HM7.out.keepq (HS7.out.trans2 (HS8.out.trans2 (HS9.out.trans2 (HS10.out.trans2 HS11.out)))) (fun x hx hS => by have := HB7.out x hx; first | exact False.elim hS | omega | (simp only [false_or, or_false, or_self] at hS <;> omega))) (by omega)).mono ?_
  rintro e y13 ⟨rfl, hk13⟩
  have hs13 := hk13.size
  have HS12 := hide hk13.q0
  clear hk13
  clear z1_12a z1_12b z1_12c
  obtain ⟨z2_13a, z2_13b, z2_13c⟩ := blk3 ((HS10.out.trans2 (HS11.out.trans2 HS12.out)).blk HZ10.out (fun hS => by first | exact False.elim hS | omega | (simp only [false_or, or_false, or_self] at hS <;> omega)))
  go_wp2_with fail
  refine (spoilt_ok (HR9.out.keepq (HS9.out.trans2 (HS10.out.trans2 (HS11.out.trans2 HS12.out))) (fun x hx hS => by have := HLT2.out x hx; first | exact False.elim hS | omega | (simp only [false_or, or_false, or_self] at hS <;> omega))) (HM9.out.keepq (HS9.out.trans2 (HS10.out.trans2 (HS11.out.trans2 HS12.out))) (fun x hx hS => by have := HB9.out x hx; first | exact False.elim hS | omega | (simp only [false_or, or_false, or_self] at hS <;> omega))) (by omega)).mono ?_
  rintro e y14 ⟨rfl, hk14⟩
  have hs14 := hk14.size
  have HS13 := hide hk14.q0
  clear hk14
  clear z2_13a z2_13b z2_13c
  go_wp2_with fail
  refine (spoil_any (HO5.out.keepq (HS5.out.trans2 (HS6.out.trans2 (HS7.out.trans2 (HS8.out.trans2 (HS9.out.trans2 (HS10.out.trans2 (HS11.out.trans2 (HS12.out.trans2 HS13.out)))))))) (fun x hx hS => by have := HLT5.out x hx; first | exact False.elim hS | omega | (simp only [false_or, or_false, or_self] at hS <;> omega))) (-13) (by rw [HLN.out]; omega) (by omega)).mono ?_
  rw [HLN.out]
  rintro e y15 ⟨_, a15, c15, rfl, rfl, hr15, hm15, hk15, hb15⟩
  have hk15b : Kq (fun x => y4.heap.size ≤ x ∧ x < y5.heap.size) y14 y15 := hk15.mono fun x hx => HLT5.out x hx
  have hs15 := hk15b.size
  have hb15b : ∀ x, (Value.slice a15 (ln + 1) c15).ownBlock = some x → ((y4.heap.size ≤ x ∧ x < y5.heap.size) ∨ y14.heap.size ≤ x) ∧ x < y15.heap.size := fun x hx => ⟨(hb15 x hx).1.imp (fun h => HLT5.out x h) id, (hb15 x hx).2⟩
  have HR15 := hide hr15
  have HM15 := hide hm15
  have HS14 := hide hk15b
  have HB15 := hide hb15b
  clear hr15 hm15 hk15b hb15b
  clear hk15 hb15
  go_wp2_with fail
  have hz16 := blk_new y15 (.cells #[.slice b5 ln d5, .slice a15 (ln + 1) c15, .int .i64 (-13)] 67)
  have hk16 : Kp [] y15 (y15.alloc (.cells #[.slice b5 ln d5, .slice a15 (ln + 1) c15, .int .i64 (-13)] 67)) := (Kp.refl _ _).alloc _
  generalize y15.alloc (.cells #[.slice b5 ln d5, .slice a15 (ln + 1) c15, .int .i64 (-13)] 67) = y16 at hz16 hk16 ⊢
  have hkb16 := blk_lt hz16
  have hs16 := hk16.size
  have HS15 := hide hk16.q0
  clear hk16
  have HZ16 := hide hz16
  clear hz16
  go_wp2_with fail
  refine (spoil_any (HO6.out.keepq (HS6.out.trans2 (HS7.out.trans2 (HS8.out.trans2 (HS9.out.trans2 (HS10.out.trans2 (HS11.out.trans2 (HS12.out.trans2 (HS13.out.trans2 (HS14.out.trans2 HS15.out))))))))) (fun x hx hS => by have := HLT6.out x hx; first | exact False.elim hS | omega | (simp only [false_or, or_false, or_self] at hS <;> omega))) (-14) (by rw [HMN.out]; omega) (by omega)).mono ?_
  rw [HMN.out]
  rintro e y17 ⟨_, a17, c17, rfl, rfl, hr17, hm17, hk17, hb17⟩
  have hk17b : Kq (fun x => y5.heap.size ≤ x ∧ x < y6.heap.size) y16 y17 := hk17.mono fun x hx => HLT6.out x hx
  have hs17 := hk17b.size
  have hb17b : ∀ x, (Value.slice a17 (mn + 1) c17).ownBlock = some x → ((y5.heap.size ≤ x ∧ x < y6.heap.size) ∨ y16.heap.size ≤ x) ∧ x < y17.heap.size := fun x hx => ⟨(hb17 x hx).1.imp (fun h => HLT6.out x h) id, (hb17 x hx).2⟩
  have HR17 := hide hr17
  have HM17 := hide hm17
  have HS16 := hide hk17b
  have HB17 := hide hb17b
  clear hr17 hm17 hk17b hb17b
  clear hk17 hb17
  go_wp2_with fail
  have hz18 := blk_new y17 (.cells #[.slice b6 mn d6, .slice a17 (mn + 1) c17, .int .i64 (-14)] 67)
  have hk18 : Kp [] y17 (y17.alloc (.cells #[.slice b6 mn d6, .slice a17 (mn + 1) c17, .int .i64 (-14)] 67)) := (Kp.refl _ _).alloc _
  generalize y17.alloc (.cells #[.slice b6 mn d6, .slice a17 (mn + 1) c17, .int .i64 (-14)] 67) = y18 at hz18 hk18 ⊢
  have hkb18 := blk_lt hz18
  have hs18 := hk18.size
  have HS17 := hide hk18.q0
  clear hk18
  have HZ18 := hide hz18
  clear hz18
  go_wp2_with fail
  refine (pFree_any (HP0.out.keepq (HS0.out.trans2 (HS1.out.trans2 (HS2.out.trans2 (HS3.out.trans2 (HS4.out.trans2 (HS5.out.trans2 (HS6.out.trans2 (HS7.out.trans2 (HS8.out.trans2 (HS9.out.trans2 (HS10.out.trans2 (HS11.out.trans2 (HS12.out.trans2 (HS13.out.trans2 (HS14.out.trans2 (HS15.out.trans2 (HS16.out.trans2 HS17.out))))))))))))))))) (fun hS => by first | exact False.elim hS | omega | (simp only [false_or, or_false, or_self] at hS <;> omega)) (fun hS => by first | exact False.elim hS | omega | (simp only [false_or, or_false, or_self] at hS <;> omega)))).mono ?_
  rw [HFC.out]
  rintro e _ ⟨rfl, rfl⟩
  go_wp2_with fail
  refine (place_any _ _ (by omega) (by omega) HN.out.swap _).mono ?_
  rw [HN1.out]
  rintro e _ ⟨rfl, rfl⟩
  go_wp2_with fail
  refine (pTake_ok (HP0.out.keepq (HS0.out.trans2 (HS1.out.trans2 (HS2.out.trans2 (HS3.out.trans2 (HS4.out.trans2 (HS5.out.trans2 (HS6.out.trans2 (HS7.out.trans2 (HS8.out.trans2 (HS9.out.trans2 (HS10.out.trans2 (HS11.out.trans2 (HS12.out.trans2 (HS13.out.trans2 (HS14.out.trans2 (HS15.out.trans2 (HS16.out.trans2 HS17.out))))))))))))))))) (fun hS => by first | exact False.elim hS | omega | (simp only [false_or, or_false, or_self] at hS <;> omega)) (fun hS => by first | exact False.elim hS | omega | (simp only [false_or, or_false, or_self] at hS <;> omega))) _ _ c1 n1 rfl rfl hc1b (by rw [HFC.out]; omega)).mono ?_
  rw [HPP.out, minus_free]
  rintro e y19 ⟨v19, rfl, ho19, hp19, hk19⟩
  have hs19 := hk19.size
  have HS18 := hide hk19.q1
  clear hk19
  have hlt19 := ho19.lt
  obtain ⟨b19, d19, hv19⟩ := ho19.form
  rw [HPN.out] at hv19
  subst hv19
  have HO19 := hide ho19
  have HLT19 := hide hlt19
  clear ho19 hlt19
  have HP19 := hide hp19
  clear hp19
  go_wp2_with fail
  refine (copySpans_any HO19.out.src (by rw [HPN.out]; omega)).mono ?_
  rintro e y20 ⟨v20, rfl, ho20, hk20⟩
  have hs20 := hk20.size
  have HS19 := hide hk20.q0
  clear hk20
  have hlt20 := ho20.lt
  obtain ⟨b20, d20, hv20⟩ := ho20.form
  rw [HPN.out] at hv20
  subst hv20
  have HO20 := hide ho20
  have HLT20 := hide hlt20
  clear ho20 hlt20
  go_wp2_with fail
  refine (count_k HO20.out.rd HPL.out (by omega) HPB.out).mono ?_
  rintro e y21 ⟨rfl, hk21⟩
  have hs21 := hk21.size
  have HS20 := hide hk21.q0
  clear hk21
  go_wp2_with fail
  refine (count_k (HO3.out.keepq (HS3.out.trans2 (HS4.out.trans2 (HS5.out.trans2 (HS6.out.trans2 (HS7.out.trans2 (HS8.out.trans2 (HS9.out.trans2 (HS10.out.trans2 (HS11.out.trans2 (HS12.out.trans2 (HS13.out.trans2 (HS14.out.trans2 (HS15.out.trans2 (HS16.out.trans2 (HS17.out.trans2 (HS18.out.trans2 (HS19.out.trans2 HS20.out))))))))))))))))) (fun x hx hS => by have := HLT3.out x hx; first | exact False.elim hS | omega | (simp only [false_or, or_false, or_self] at hS <;> omega))).rd HFL2.out (by omega) HFB.out).mono ?_
  rintro e y22 ⟨rfl, hk22⟩
  have hs22 := hk22.size
  have HS21 := hide hk22.q0
  clear hk22
  go_wp2_with fail
  refine (place_any _ _ (by omega) (by omega) HN.out.swap _).mono ?_
  rw [HN1.out]
  rintro e _ ⟨rfl, rfl⟩
  go_wp2_with fail
  refine (spoil_any (HO19.out.keepq (HS19.out.trans2 (HS20.out.trans2 HS21.out)) (fun x hx hS => by have := HLT19.out x hx; first | exact False.elim hS | omega | (simp only [false_or, or_false, or_self] at hS <;> omega))) (-15) (by rw [HPN.out]; omega) (by omega)).mono ?_
  rw [HPN.out]
  rintro e y23 ⟨_, a23, c23, rfl, rfl, hr23, hm23, hk23, hb23⟩
  have hk23b : Kq (fun x => y18.heap.size ≤ x ∧ x < y19.heap.size) y22 y23 := hk23.mono fun x hx => HLT19.out x hx
  have hs23 := hk23b.size
  have hb23b : ∀ x, (Value.slice a23 (pn + 1) c23).ownBlock = some x → ((y18.heap.size ≤ x ∧ x < y19.heap.size) ∨ y22.heap.size ≤ x) ∧ x < y23.heap.size := fun x hx => ⟨(hb23 x hx).1.imp (fun h => HLT19.out x h) id, (hb23 x hx).2⟩
  have HR23 := hide hr23
  have HM23 := hide hm23
  have HS22 := hide hk23b
  have HB23 := hide hb23b
  clear hr23 hm23 hk23b hb23b
  clear hk23 hb23
  go_wp2_with fail
  have hz24 := blk_new y23 (.cells #[.slice b19 pn d19, .slice a23 (pn + 1) c23, .int .i64 (-15)] 67)
  have hk24 : Kp [] y23 (y23.alloc (.cells #[.slice b19 pn d19, .slice a23 (pn + 1) c23, .int .i64 (-15)] 67)) := (Kp.refl _ _).alloc _
  generalize y23.alloc (.cells #[.slice b19 pn d19, .slice a23 (pn + 1) c23, .int .i64 (-15)] 67) = y24 at hz24 hk24 ⊢
  have hkb24 := blk_lt hz24
  have hs24 := hk24.size
  have HS23 := hide hk24.q0
  clear hk24
  have HZ24 := hide hz24
  clear hz24
  go_wp2_with fail
  refine (pFree_any (HP19.out.keepq (HS19.out.trans2 (HS20.out.trans2 (HS21.out.trans2 (HS22.out.trans2 HS23.out)))) (fun hS => by first | exact False.elim hS | omega | (simp only [false_or, or_false, or_self] at hS <;> omega)) (fun hS => by first | exact False.elim hS | omega | (simp only [false_or, or_false, or_self] at hS <;> omega)))).mono ?_
  rw [HFQ.out]
  rintro e _ ⟨rfl, rfl⟩
  go_wp2_with fail
  refine (pTake_ok (HP19.out.keepq (HS19.out.trans2 (HS20.out.trans2 (HS21.out.trans2 (HS22.out.trans2 HS23.out)))) (fun hS => by first | exact False.elim hS | omega | (simp only [false_or, or_false, or_self] at hS <;> omega)) (fun hS => by first | exact False.elim hS | omega | (simp only [false_or, or_false, or_self] at hS <;> omega))) _ _ c1 qv rfl rfl hc1b (by rw [HFQ.out]; omega)).mono ?_
  rw [HQQ.out, minus_free]
  rintro e y25 ⟨v25, rfl, ho25, hp25, hk25⟩
  have hs25 := hk25.size
  have HS24 := hide hk25.q1
  clear hk25
  have hlt25 := ho25.lt
  obtain ⟨b25, d25, hv25⟩ := ho25.form
  rw [HQN.out] at hv25
  subst hv25
  have HO25 := hide ho25
  have HLT25 := hide hlt25
  clear ho25 hlt25
  have HP25 := hide hp25
  clear hp25
  go_wp2_with fail
  refine (copySpans_any HO25.out.src (by rw [HQN.out]; omega)).mono ?_
  rintro e y26 ⟨v26, rfl, ho26, hk26⟩
  have hs26 := hk26.size
  have HS25 := hide hk26.q0
  clear hk26
  have hlt26 := ho26.lt
  obtain ⟨b26, d26, hv26⟩ := ho26.form
  rw [HQN.out] at hv26
  subst hv26
  have HO26 := hide ho26
  have HLT26 := hide hlt26
  clear ho26 hlt26
  go_wp2_with fail
  refine (count_k (HO20.out.keepq (HS20.out.trans2 (HS21.out.trans2 (HS22.out.trans2 (HS23.out.trans2 (HS24.out.trans2 HS25.out))))) (fun x hx hS => by have := HLT20.out x hx; first | exact False.elim hS | omega | (simp only [false_or, or_false, or_self] at hS <;> omega))).rd HPL.out (by omega) HPB.out).mono ?_
  rintro e y27 ⟨rfl, hk27⟩
  have hs27 := hk27.size
  have HS26 := hide hk27.q0
  clear hk27
  go_wp2_with fail
  refine (count_k (HO26.out.keepq HS26.out (fun x hx hS => by have := HLT26.out x hx; first | exact False.elim hS | omega | (simp only [false_or, or_false, or_self] at hS <;> omega))).rd HQL.out (by omega) HQB.out).mono ?_
  rintro e y28 ⟨rfl, hk28⟩
  have hs28 := hk28.size
  have HS27 := hide hk28.q0
  clear hk28
  go_wp2_with fail
  refine (count_k (HO3.out.keepq (HS3.out.trans2 (HS4.out.trans2 (HS5.out.trans2 (HS6.out.trans2 (HS7.out.trans2 (HS8.out.trans2 (HS9.out.trans2 (HS10.out.trans2 (HS11.out.trans2 (HS12.out.trans2 (HS13.out.trans2 (HS14.out.trans2 (HS15.out.trans2 (HS16.out.trans2 (HS17.out.trans2 (HS18.out.trans2 (HS19.out.trans2 (HS20.out.trans2 (HS21.out.trans2 (HS22.out.trans2 (HS23.out.trans2 (HS24.out.trans2 (HS25.out.trans2 (HS26.out.trans2 HS27.out)))))))))))))))))))))))) (fun x hx hS => by have := HLT3.out x hx; first | exact False.elim hS | omega | (simp only [false_or, or_false, or_self] at hS <;> omega))).rd HFL2.out (by omega) HFB.out).mono ?_
  rintro e y29 ⟨rfl, hk29⟩
  have hs29 := hk29.size
  have HS28 := hide hk29.q0
  clear hk29
  go_wp2_with fail
  refine (pFree_any (HP25.out.keepq (HS25.out.trans2 (HS26.out.trans2 (HS27.out.trans2 HS28.out))) (fun hS => by first | exact False.elim hS | omega | (simp only [false_or, or_false, or_self] at hS <;> omega)) (fun hS => by first | exact False.elim hS | omega | (simp only [false_or, or_false, or_self] at hS <;> omega)))).mono ?_
  rw [HF0.out]
  rintro e _ ⟨rfl, rfl⟩
  obtain ⟨z19_29a, z19_29b, z19_29c⟩ := blk3 ((HS24.out.trans2 (HS25.out.trans2 (HS26.out.trans2 (HS27.out.trans2 HS28.out)))).blk HZ24.out (fun hS => by first | exact False.elim hS | omega | (simp only [false_or, or_false, or_self] at hS <;> omega)))
  go_wp2_with fail
  refine (spoilt_ok (HR23.out.keepq (HS23.out.trans2 (HS24.out.trans2 (HS25.out.trans2 (HS26.out.trans2 (HS27.out.trans2 HS28.out))))) (fun x hx hS => by have := HLT19.out x hx; first | exact False.elim hS | omega | (simp only [false_or, or_false, or_self] at hS <;> omega))) (HM23.out.keepq (HS23.out.trans2 (HS24.out.trans2 (HS25.out.trans2 (HS26.out.trans2 (HS27.out.trans2 HS28.out))))) (fun x hx hS => by have := HB23.out x hx; first | exact False.elim hS | omega | (simp only [false_or, or_false, or_self] at hS <;> omega))) (by omega)).mono ?_
  rintro e y30 ⟨rfl, hk30⟩
  have hs30 := hk30.size
  have HS29 := hide hk30.q0
  clear hk30
  clear z19_29a z19_29b z19_29c
  go_wp2_with fail
  refine (spoil_any (HO25.out.keepq (HS25.out.trans2 (HS26.out.trans2 (HS27.out.trans2 (HS28.out.trans2 HS29.out)))) (fun x hx hS => by have := HLT25.out x hx; first | exact False.elim hS | omega | (simp only [false_or, or_false, or_self] at hS <;> omega))) (-16) (by rw [HQN.out]; omega) (by omega)).mono ?_
  rw [HQN.out]
  rintro e y31 ⟨_, a31, c31, rfl, rfl, hr31, hm31, hk31, hb31⟩
  have hk31b : Kq (fun x => y24.heap.size ≤ x ∧ x < y25.heap.size) y30 y31 := hk31.mono fun x hx => HLT25.out x hx
  have hs31 := hk31b.size
  have hb31b : ∀ x, (Value.slice a31 (qn + 1) c31).ownBlock = some x → ((y24.heap.size ≤ x ∧ x < y25.heap.size) ∨ y30.heap.size ≤ x) ∧ x < y31.heap.size := fun x hx => ⟨(hb31 x hx).1.imp (fun h => HLT25.out x h) id, (hb31 x hx).2⟩
  have HR31 := hide hr31
  have HM31 := hide hm31
  have HS30 := hide hk31b
  have HB31 := hide hb31b
  clear hr31 hm31 hk31b hb31b
  clear hk31 hb31
  go_wp2_with fail
  have hz32 := blk_new y31 (.cells #[.slice b25 qn d25, .slice a31 (qn + 1) c31, .int .i64 (-16)] 67)
  have hk32 : Kp [] y31 (y31.alloc (.cells #[.slice b25 qn d25, .slice a31 (qn + 1) c31, .int .i64 (-16)] 67)) := (Kp.refl _ _).alloc _
  generalize y31.alloc (.cells #[.slice b25 qn d25, .slice a31 (qn + 1) c31, .int .i64 (-16)] 67) = y32 at hz32 hk32 ⊢
  have hkb32 := blk_lt hz32
  have hs32 := hk32.size
  have HS31 := hide hk32.q0
  clear hk32
  have HZ32 := hide hz32
  clear hz32
  go_wp2_with fail
  refine (pagesOf_any (P := P) (HO20.out.keepq (HS20.out.trans2 (HS21.out.trans2 (HS22.out.trans2 (HS23.out.trans2 (HS24.out.trans2 (HS25.out.trans2 (HS26.out.trans2 (HS27.out.trans2 (HS28.out.trans2 (HS29.out.trans2 (HS30.out.trans2 HS31.out))))))))))) (fun x hx hS => by have := HLT20.out x hx; first | exact False.elim hS | omega | (simp only [false_or, or_false, or_self] at hS <;> omega))).rd (by have := HPL.out; omega) HPB.out).mono ?_
  rintro e y33 ⟨v33, rfl, ho33, hk33⟩
  have hlt33 := ho33.lt
  have hs33 := hk33.size
  have HS32 := hide hk33.q0
  clear hk33
  have HO33 := hide ho33
  have HLT33 := hide hlt33
  clear ho33 hlt33
  go_wp2_with fail
  refine (pGive_back (HP25.out.keepq (HS25.out.trans2 (HS26.out.trans2 (HS27.out.trans2 (HS28.out.trans2 (HS29.out.trans2 (HS30.out.trans2 (HS31.out.trans2 HS32.out))))))) (fun hS => by first | exact False.elim hS | omega | (simp only [false_or, or_false, or_self] at hS <;> omega)) (fun hS => by first | exact False.elim hS | omega | (simp only [false_or, or_false, or_self] at hS <;> omega))) v33 P HO33.out.rd (fun x hx => by have := HLT33.out x hx; omega) (by have := HPL.out; omega) HTA.out.1 HBACK1.out).mono ?_
  rintro e y34 ⟨rfl, hp34, hk34⟩
  have hs34 := hk34.size
  have HS33 := hide hk34.q1
  clear hk34
  have HP34 := hide hp34
  clear hp34
  go_wp2_with fail
  refine (pagesOf_any (P := Q) (HO26.out.keepq (HS26.out.trans2 (HS27.out.trans2 (HS28.out.trans2 (HS29.out.trans2 (HS30.out.trans2 (HS31.out.trans2 (HS32.out.trans2 HS33.out))))))) (fun x hx hS => by have := HLT26.out x hx; first | exact False.elim hS | omega | (simp only [false_or, or_false, or_self] at hS <;> omega))).rd (by have := HQL.out; omega) HQB.out).mono ?_
  rintro e y35 ⟨v35, rfl, ho35, hk35⟩
  have hlt35 := ho35.lt
  have hs35 := hk35.size
  have HS34 := hide hk35.q0
  clear hk35
  have HO35 := hide ho35
  have HLT35 := hide hlt35
  clear ho35 hlt35
  go_wp2_with fail
  refine (pGive_back (HP34.out.keepq HS34.out (fun hS => by first | exact False.elim hS | omega | (simp only [false_or, or_false, or_self] at hS <;> omega)) (fun hS => by first | exact False.elim hS | omega | (simp only [false_or, or_false, or_self] at hS <;> omega))) v35 Q HO35.out.rd (fun x hx => by have := HLT35.out x hx; omega) (by have := HQL.out; omega) HTQ.out.1 HBACK2.out).mono ?_
  rw [HBACK3.out]
  rintro e y36 ⟨rfl, hp36, hk36⟩
  have hs36 := hk36.size
  have HS35 := hide hk36.q1
  clear hk36
  have HP36 := hide hp36
  clear hp36
  go_wp2_with fail
  refine (pSpans_any HP36.out).mono ?_
  rw [runs_free, HFLE.out]
  rintro e y37 ⟨v37, rfl, ho37, hk37⟩
  have hs37 := hk37.size
  have HS36 := hide hk37.q0
  clear hk37
  have hlt37 := ho37.lt
  obtain ⟨b37, d37, hv37⟩ := ho37.form
  rw [HLN.out] at hv37
  subst hv37
  have HO37 := hide ho37
  have HLT37 := hide hlt37
  clear ho37 hlt37
  go_wp2_with fail
  refine (sameSpans_k HO37.out.rd (HO3.out.keepq (HS3.out.trans2 (HS4.out.trans2 (HS5.out.trans2 (HS6.out.trans2 (HS7.out.trans2 (HS8.out.trans2 (HS9.out.trans2 (HS10.out.trans2 (HS11.out.trans2 (HS12.out.trans2 (HS13.out.trans2 (HS14.out.trans2 (HS15.out.trans2 (HS16.out.trans2 (HS17.out.trans2 (HS18.out.trans2 (HS19.out.trans2 (HS20.out.trans2 (HS21.out.trans2 (HS22.out.trans2 (HS23.out.trans2 (HS24.out.trans2 (HS25.out.trans2 (HS26.out.trans2 (HS27.out.trans2 (HS28.out.trans2 (HS29.out.trans2 (HS30.out.trans2 (HS31.out.trans2 (HS32.out.trans2 (HS33.out.trans2 (HS34.out.trans2 (HS35.out.trans2 HS36.out))))))))))))))))))))))))))))))))) (fun x hx hS => by have := HLT3.out x hx; first | exact False.elim hS | omega | (simp only [false_or, or_false, or_self] at hS <;> omega))).rd (by rw [HLN.out]; omega)).mono ?_
  rintro e y38 ⟨rfl, hk38⟩
  have hs38 := hk38.size
  have HS37 := hide hk38.q0
  clear hk38
  go_wp2_with fail
  refine (pCore_in (HP36.out.keepq (HS36.out.trans2 HS37.out) (fun hS => by first | exact False.elim hS | omega | (simp only [false_or, or_false, or_self] at hS <;> omega)) (fun hS => by first | exact False.elim hS | omega | (simp only [false_or, or_false, or_self] at hS <;> omega))) _ c1 rfl hc1b).mono ?_
  rw [runs_area, HALE.out]
  rintro e y39 ⟨v39, rfl, ho39, hk39⟩
  have hs39 := hk39.size
  have HS38 := hide hk39.q0
  clear hk39
  have hlt39 := ho39.lt
  obtain ⟨b39, d39, hv39⟩ := ho39.form
  rw [HMN.out] at hv39
  subst hv39
  have HO39 := hide ho39
  have HLT39 := hide hlt39
  clear ho39 hlt39
  go_wp2_with fail
  refine (sameSpans_k HO39.out.rd (HO4.out.keepq (HS4.out.trans2 (HS5.out.trans2 (HS6.out.trans2 (HS7.out.trans2 (HS8.out.trans2 (HS9.out.trans2 (HS10.out.trans2 (HS11.out.trans2 (HS12.out.trans2 (HS13.out.trans2 (HS14.out.trans2 (HS15.out.trans2 (HS16.out.trans2 (HS17.out.trans2 (HS18.out.trans2 (HS19.out.trans2 (HS20.out.trans2 (HS21.out.trans2 (HS22.out.trans2 (HS23.out.trans2 (HS24.out.trans2 (HS25.out.trans2 (HS26.out.trans2 (HS27.out.trans2 (HS28.out.trans2 (HS29.out.trans2 (HS30.out.trans2 (HS31.out.trans2 (HS32.out.trans2 (HS33.out.trans2 (HS34.out.trans2 (HS35.out.trans2 (HS36.out.trans2 (HS37.out.trans2 HS38.out)))))))))))))))))))))))))))))))))) (fun x hx hS => by have := HLT4.out x hx; first | exact False.elim hS | omega | (simp only [false_or, or_false, or_self] at hS <;> omega))).rd (by rw [HMN.out]; omega)).mono ?_
  rintro e y40 ⟨rfl, hk40⟩
  have hs40 := hk40.size
  have HS39 := hide hk40.q0
  clear hk40
  obtain ⟨z1_40a, z1_40b, z1_40c⟩ := blk3 ((HS8.out.trans2 (HS9.out.trans2 (HS10.out.trans2 (HS11.out.trans2 (HS12.out.trans2 (HS13.out.trans2 (HS14.out.trans2 (HS15.out.trans2 (HS16.out.trans2 (HS17.out.trans2 (HS18.out.trans2 (HS19.out.trans2 (HS20.out.trans2 (HS21.out.trans2 (HS22.out.trans2 (HS23.out.trans2 (HS24.out.trans2 (HS25.out.trans2 (HS26.out.trans2 (HS27.out.trans2 (HS28.out.trans2 (HS29.out.trans2 (HS30.out.trans2 (HS31.out.trans2 (HS32.out.trans2 (HS33.out.trans2 (HS34.out.trans2 (HS35.out.trans2 (HS36.out.trans2 (HS37.out.trans2 (HS38.out.trans2 HS39.out))))))))))))))))))))))))))))))).blk HZ8.out (fun hS => by first | exact False.elim hS | omega | (simp only [false_or, or_false, or_self] at hS <;> omega)))
  go_wp2_with fail
  refine (spoilt_ok (HR7.out.keepq (HS7.out.trans2 (HS8.out.trans2 (HS9.out.trans2 (HS10.out.trans2 (HS11.out.trans2 (HS12.out.trans2 (HS13.out.trans2 (HS14.out.trans2 (HS15.out.trans2 (HS16.out.trans2 (HS17.out.trans2 (HS18.out.trans2 (HS19.out.trans2 (HS20.out.trans2 (HS21.out.trans2 (HS22.out.trans2 (HS23.out.trans2 (HS24.out.trans2 (HS25.out.trans2 (HS26.out.trans2 (HS27.out.trans2 (HS28.out.trans2 (HS29.out.trans2 (HS30.out.trans2 (HS31.out.trans2 (HS32.out.trans2 (HS33.out.trans2 (HS34.out.trans2 (HS35.out.trans2 (HS36.out.trans2 (HS37.out.trans2 (HS38.out.trans2 HS39.out)))))))))))))))))))))))))))))))) (fun x hx hS => by have := HLT1.out x hx; first | exact False.elim hS | omega | (simp only [false_or, or_false, or_self] at hS <;> omega))) (HM7.out.keepq (HS7.out.trans2 (HS8.out.trans2 (HS9.out.trans2 (HS10.out.trans2 (HS11.out.trans2 (HS12.out.trans2 (HS13.out.trans2 (HS14.out.trans2 (HS15.out.trans2 (HS16.out.trans2 (HS17.out.trans2 (HS18.out.trans2 (HS19.out.trans2 (HS20.out.trans2 (HS21.out.trans2 (HS22.out.trans2 (HS23.out.trans2 (HS24.out.trans2 (HS25.out.trans2 (HS26.out.trans2 (HS27.out.trans2 (HS28.out.trans2 (HS29.out.trans2 (HS30.out.trans2 (HS31.out.trans2 (HS32.out.trans2 (HS33.out.trans2 (HS34.out.trans2 (HS35.out.trans2 (HS36.out.trans2 (HS37.out.trans2 (HS38.out.trans2 HS39.out)))))))))))))))))))))))))))))))) (fun x hx hS => by have := HB7.out x hx; first | exact False.elim hS | omega | (simp only [false_or, or_false, or_self] at hS <;> omega))) (by omega)).mono ?_
  rintro e y41 ⟨rfl, hk41⟩
  have hs41 := hk41.size
  have HS40 := hide hk41.q0
  clear hk41
  clear z1_40a z1_40b z1_40c
  obtain ⟨z2_41a, z2_41b, z2_41c⟩ := blk3 ((HS10.out.trans2 (HS11.out.trans2 (HS12.out.trans2 (HS13.out.trans2 (HS14.out.trans2 (HS15.out.trans2 (HS16.out.trans2 (HS17.out.trans2 (HS18.out.trans2 (HS19.out.trans2 (HS20.out.trans2 (HS21.out.trans2 (HS22.out.trans2 (HS23.out.trans2 (HS24.out.trans2 (HS25.out.trans2 (HS26.out.trans2 (HS27.out.trans2 (HS28.out.trans2 (HS29.out.trans2 (HS30.out.trans2 (HS31.out.trans2 (HS32.out.trans2 (HS33.out.trans2 (HS34.out.trans2 (HS35.out.trans2 (HS36.out.trans2 (HS37.out.trans2 (HS38.out.trans2 (HS39.out.trans2 HS40.out)))))))))))))))))))))))))))))).blk HZ10.out (fun hS => by first | exact False.elim hS | omega | (simp only [false_or, or_false, or_self] at hS <;> omega)))
  go_wp2_with fail
  refine (spoilt_ok (HR9.out.keepq (HS9.out.trans2 (HS10.out.trans2 (HS11.out.trans2 (HS12.out.trans2 (HS13.out.trans2 (HS14.out.trans2 (HS15.out.trans2 (HS16.out.trans2 (HS17.out.trans2 (HS18.out.trans2 (HS19.out.trans2 (HS20.out.trans2 (HS21.out.trans2 (HS22.out.trans2 (HS23.out.trans2 (HS24.out.trans2 (HS25.out.trans2 (HS26.out.trans2 (HS27.out.trans2 (HS28.out.trans2 (HS29.out.trans2 (HS30.out.trans2 (HS31.out.trans2 (HS32.out.trans2 (HS33.out.trans2 (HS34.out.trans2 (HS35.out.trans2 (HS36.out.trans2 (HS37.out.trans2 (HS38.out.trans2 (HS39.out.trans2 HS40.out))))))))))))))))))))))))))))))) (fun x hx hS => by have := HLT2.out x hx; first | exact False.elim hS | omega | (simp only [false_or, or_false, or_self] at hS <;> omega))) (HM9.out.keepq (HS9.out.trans2 (HS10.out.trans2 (HS11.out.trans2 (HS12.out.trans2 (HS13.out.trans2 (HS14.out.trans2 (HS15.out.trans2 (HS16.out.trans2 (HS17.out.trans2 (HS18.out.trans2 (HS19.out.trans2 (HS20.out.trans2 (HS21.out.trans2 (HS22.out.trans2 (HS23.out.trans2 (HS24.out.trans2 (HS25.out.trans2 (HS26.out.trans2 (HS27.out.trans2 (HS28.out.trans2 (HS29.out.trans2 (HS30.out.trans2 (HS31.out.trans2 (HS32.out.trans2 (HS33.out.trans2 (HS34.out.trans2 (HS35.out.trans2 (HS36.out.trans2 (HS37.out.trans2 (HS38.out.trans2 (HS39.out.trans2 HS40.out))))))))))))))))))))))))))))))) (fun x hx hS => by have := HB9.out x hx; first | exact False.elim hS | omega | (simp only [false_or, or_false, or_self] at hS <;> omega))) (by omega)).mono ?_
  rintro e y42 ⟨rfl, hk42⟩
  have hs42 := hk42.size
  have HS41 := hide hk42.q0
  clear hk42
  clear z2_41a z2_41b z2_41c
  obtain ⟨z5_42a, z5_42b, z5_42c⟩ := blk3 ((HS16.out.trans2 (HS17.out.trans2 (HS18.out.trans2 (HS19.out.trans2 (HS20.out.trans2 (HS21.out.trans2 (HS22.out.trans2 (HS23.out.trans2 (HS24.out.trans2 (HS25.out.trans2 (HS26.out.trans2 (HS27.out.trans2 (HS28.out.trans2 (HS29.out.trans2 (HS30.out.trans2 (HS31.out.trans2 (HS32.out.trans2 (HS33.out.trans2 (HS34.out.trans2 (HS35.out.trans2 (HS36.out.trans2 (HS37.out.trans2 (HS38.out.trans2 (HS39.out.trans2 (HS40.out.trans2 HS41.out))))))))))))))))))))))))).blk HZ16.out (fun hS => by first | exact False.elim hS | omega | (simp only [false_or, or_false, or_self] at hS <;> omega)))
  go_wp2_with fail
  refine (spoilt_ok (HR15.out.keepq (HS15.out.trans2 (HS16.out.trans2 (HS17.out.trans2 (HS18.out.trans2 (HS19.out.trans2 (HS20.out.trans2 (HS21.out.trans2 (HS22.out.trans2 (HS23.out.trans2 (HS24.out.trans2 (HS25.out.trans2 (HS26.out.trans2 (HS27.out.trans2 (HS28.out.trans2 (HS29.out.trans2 (HS30.out.trans2 (HS31.out.trans2 (HS32.out.trans2 (HS33.out.trans2 (HS34.out.trans2 (HS35.out.trans2 (HS36.out.trans2 (HS37.out.trans2 (HS38.out.trans2 (HS39.out.trans2 (HS40.out.trans2 HS41.out)))))))))))))))))))))))))) (fun x hx hS => by have := HLT5.out x hx; first | exact False.elim hS | omega | (simp only [false_or, or_false, or_self] at hS <;> omega))) (HM15.out.keepq (HS15.out.trans2 (HS16.out.trans2 (HS17.out.trans2 (HS18.out.trans2 (HS19.out.trans2 (HS20.out.trans2 (HS21.out.trans2 (HS22.out.trans2 (HS23.out.trans2 (HS24.out.trans2 (HS25.out.trans2 (HS26.out.trans2 (HS27.out.trans2 (HS28.out.trans2 (HS29.out.trans2 (HS30.out.trans2 (HS31.out.trans2 (HS32.out.trans2 (HS33.out.trans2 (HS34.out.trans2 (HS35.out.trans2 (HS36.out.trans2 (HS37.out.trans2 (HS38.out.trans2 (HS39.out.trans2 (HS40.out.trans2 HS41.out)))))))))))))))))))))))))) (fun x hx hS => by have := HB15.out x hx; first | exact False.elim hS | omega | (simp only [false_or, or_false, or_self] at hS <;> omega))) (by omega)).mono ?_
  rintro e y43 ⟨rfl, hk43⟩
  have hs43 := hk43.size
  have HS42 := hide hk43.q0
  clear hk43
  clear z5_42a z5_42b z5_42c
  obtain ⟨z6_43a, z6_43b, z6_43c⟩ := blk3 ((HS18.out.trans2 (HS19.out.trans2 (HS20.out.trans2 (HS21.out.trans2 (HS22.out.trans2 (HS23.out.trans2 (HS24.out.trans2 (HS25.out.trans2 (HS26.out.trans2 (HS27.out.trans2 (HS28.out.trans2 (HS29.out.trans2 (HS30.out.trans2 (HS31.out.trans2 (HS32.out.trans2 (HS33.out.trans2 (HS34.out.trans2 (HS35.out.trans2 (HS36.out.trans2 (HS37.out.trans2 (HS38.out.trans2 (HS39.out.trans2 (HS40.out.trans2 (HS41.out.trans2 HS42.out)))))))))))))))))))))))).blk HZ18.out (fun hS => by first | exact False.elim hS | omega | (simp only [false_or, or_false, or_self] at hS <;> omega)))
  go_wp2_with fail
  refine (spoilt_ok (HR17.out.keepq (HS17.out.trans2 (HS18.out.trans2 (HS19.out.trans2 (HS20.out.trans2 (HS21.out.trans2 (HS22.out.trans2 (HS23.out.trans2 (HS24.out.trans2 (HS25.out.trans2 (HS26.out.trans2 (HS27.out.trans2 (HS28.out.trans2 (HS29.out.trans2 (HS30.out.trans2 (HS31.out.trans2 (HS32.out.trans2 (HS33.out.trans2 (HS34.out.trans2 (HS35.out.trans2 (HS36.out.trans2 (HS37.out.trans2 (HS38.out.trans2 (HS39.out.trans2 (HS40.out.trans2 (HS41.out.trans2 HS42.out))))))))))))))))))))))))) (fun x hx hS => by have := HLT6.out x hx; first | exact False.elim hS | omega | (simp only [false_or, or_false, or_self] at hS <;> omega))) (HM17.out.keepq (HS17.out.trans2 (HS18.out.trans2 (HS19.out.trans2 (HS20.out.trans2 (HS21.out.trans2 (HS22.out.trans2 (HS23.out.trans2 (HS24.out.trans2 (HS25.out.trans2 (HS26.out.trans2 (HS27.out.trans2 (HS28.out.trans2 (HS29.out.trans2 (HS30.out.trans2 (HS31.out.trans2 (HS32.out.trans2 (HS33.out.trans2 (HS34.out.trans2 (HS35.out.trans2 (HS36.out.trans2 (HS37.out.trans2 (HS38.out.trans2 (HS39.out.trans2 (HS40.out.trans2 (HS41.out.trans2 HS42.out))))))))))))))))))))))))) (fun x hx hS => by have := HB17.out x hx; first | exact False.elim hS | omega | (simp only [false_or, or_false, or_self] at hS <;> omega))) (by omega)).mono ?_
  rintro e y44 ⟨rfl, hk44⟩
  have hs44 := hk44.size
  have HS43 := hide hk44.q0
  clear hk44
  clear z6_43a z6_43b z6_43c
  obtain ⟨z19_44a, z19_44b, z19_44c⟩ := blk3 ((HS24.out.trans2 (HS25.out.trans2 (HS26.out.trans2 (HS27.out.trans2 (HS28.out.trans2 (HS29.out.trans2 (HS30.out.trans2 (HS31.out.trans2 (HS32.out.trans2 (HS33.out.trans2 (HS34.out.trans2 (HS35.out.trans2 (HS36.out.trans2 (HS37.out.trans2 (HS38.out.trans2 (HS39.out.trans2 (HS40.out.trans2 (HS41.out.trans2 (HS42.out.trans2 HS43.out))))))))))))))))))).blk HZ24.out (fun hS => by first | exact False.elim hS | omega | (simp only [false_or, or_false, or_self] at hS <;> omega)))
  go_wp2_with fail
  refine (spoilt_ok (HR23.out.keepq (HS23.out.trans2 (HS24.out.trans2 (HS25.out.trans2 (HS26.out.trans2 (HS27.out.trans2 (HS28.out.trans2 (HS29.out.trans2 (HS30.out.trans2 (HS31.out.trans2 (HS32.out.trans2 (HS33.out.trans2 (HS34.out.trans2 (HS35.out.trans2 (HS36.out.trans2 (HS37.out.trans2 (HS38.out.trans2 (HS39.out.trans2 (HS40.out.trans2 (HS41.out.trans2 (HS42.out.trans2 HS43.out)))))))))))))))))))) (fun x hx hS => by have := HLT19.out x hx; first | exact False.elim hS | omega | (simp only [false_or, or_false, or_self] at hS <;> omega))) (HM23.out.keepq (HS23.out.trans2 (HS24.out.trans2 (HS25.out.trans2 (HS26.out.trans2 (HS27.out.trans2 (HS28.out.trans2 (HS29.out.trans2 (HS30.out.trans2 (HS31.out.trans2 (HS32.out.trans2 (HS33.out.trans2 (HS34.out.trans2 (HS35.out.trans2 (HS36.out.trans2 (HS37.out.trans2 (HS38.out.trans2 (HS39.out.trans2 (HS40.out.trans2 (HS41.out.trans2 (HS42.out.trans2 HS43.out)))))))))))))))))))) (fun x hx hS => by have := HB23.out x hx; first | exact False.elim hS | omega | (simp only [false_or, or_false, or_self] at hS <;> omega))) (by omega)).mono ?_
  rintro e y45 ⟨rfl, hk45⟩
  have hs45 := hk45.size
  have HS44 := hide hk45.q0
  clear hk45
  clear z19_44a z19_44b z19_44c
  obtain ⟨z25_45a, z25_45b, z25_45c⟩ := blk3 ((HS32.out.trans2 (HS33.out.trans2 (HS34.out.trans2 (HS35.out.trans2 (HS36.out.trans2 (HS37.out.trans2 (HS38.out.trans2 (HS39.out.trans2 (HS40.out.trans2 (HS41.out.trans2 (HS42.out.trans2 (HS43.out.trans2 HS44.out)))))))))))).blk HZ32.out (fun hS => by first | exact False.elim hS | omega | (simp only [false_or, or_false, or_self] at hS <;> omega)))
  go_wp2_with fail
  refine (spoilt_ok (HR31.out.keepq (HS31.out.trans2 (HS32.out.trans2 (HS33.out.trans2 (HS34.out.trans2 (HS35.out.trans2 (HS36.out.trans2 (HS37.out.trans2 (HS38.out.trans2 (HS39.out.trans2 (HS40.out.trans2 (HS41.out.trans2 (HS42.out.trans2 (HS43.out.trans2 HS44.out))))))))))))) (fun x hx hS => by have := HLT25.out x hx; first | exact False.elim hS | omega | (simp only [false_or, or_false, or_self] at hS <;> omega))) (HM31.out.keepq (HS31.out.trans2 (HS32.out.trans2 (HS33.out.trans2 (HS34.out.trans2 (HS35.out.trans2 (HS36.out.trans2 (HS37.out.trans2 (HS38.out.trans2 (HS39.out.trans2 (HS40.out.trans2 (HS41.out.trans2 (HS42.out.trans2 (HS43.out.trans2 HS44.out))))))))))))) (fun x hx hS => by have := HB31.out x hx; first | exact False.elim hS | omega | (simp only [false_or, or_false, or_self] at hS <;> omega))) (by omega)).mono ?_
  rintro e y46 ⟨rfl, hk46⟩
  have hs46 := hk46.size
  have HS45 := hide hk46.q0
  clear hk46
  clear z25_45a z25_45b z25_45c
  have hbk46 := HBK0.out.keepq (HS0.out.trans2 (HS1.out.trans2 (HS2.out.trans2 (HS3.out.trans2 (HS4.out.trans2 (HS5.out.trans2 (HS6.out.trans2 (HS7.out.trans2 (HS8.out.trans2 (HS9.out.trans2 (HS10.out.trans2 (HS11.out.trans2 (HS12.out.trans2 (HS13.out.trans2 (HS14.out.trans2 (HS15.out.trans2 (HS16.out.trans2 (HS17.out.trans2 (HS18.out.trans2 (HS19.out.trans2 (HS20.out.trans2 (HS21.out.trans2 (HS22.out.trans2 (HS23.out.trans2 (HS24.out.trans2 (HS25.out.trans2 (HS26.out.trans2 (HS27.out.trans2 (HS28.out.trans2 (HS29.out.trans2 (HS30.out.trans2 (HS31.out.trans2 (HS32.out.trans2 (HS33.out.trans2 (HS34.out.trans2 (HS35.out.trans2 (HS36.out.trans2 (HS37.out.trans2 (HS38.out.trans2 (HS39.out.trans2 (HS40.out.trans2 (HS41.out.trans2 (HS42.out.trans2 (HS43.out.trans2 (HS44.out.trans2 HS45.out))))))))))))))))))))))))))))))))))))))))))))) (fun hS => by first | exact False.elim hS | omega | (simp only [false_or, or_false, or_self] at hS <;> omega)) (fun hS => by first | exact False.elim hS | omega | (simp only [false_or, or_false, or_self] at hS <;> omega))
  obtain ⟨_, _, _, q4, _⟩ := hbk46.cells
  have hrow46 := fun i (hi : i < S.pages) => hbk46.mark hi
  have hhl46 := hbk46.hlt
  have HROW46 := hide hrow46
  clear hrow46
  clear hbk46
  go_wp2_with fail
  refine (holesFresh_ok HROW46.out (by omega) hhl46).mono ?_
  rintro e y47 ⟨rfl, hk47⟩
  have hfin : Kp [] w y46 := (HKW0.out.trans2q (HS0.out.trans2 (HS1.out.trans2 (HS2.out.trans2 (HS3.out.trans2 (HS4.out.trans2 (HS5.out.trans2 (HS6.out.trans2 (HS7.out.trans2 (HS8.out.trans2 (HS9.out.trans2 (HS10.out.trans2 (HS11.out.trans2 (HS12.out.trans2 (HS13.out.trans2 (HS14.out.trans2 (HS15.out.trans2 (HS16.out.trans2 (HS17.out.trans2 (HS18.out.trans2 (HS19.out.trans2 (HS20.out.trans2 (HS21.out.trans2 (HS22.out.trans2 (HS23.out.trans2 (HS24.out.trans2 (HS25.out.trans2 (HS26.out.trans2 (HS27.out.trans2 (HS28.out.trans2 (HS29.out.trans2 (HS30.out.trans2 (HS31.out.trans2 (HS32.out.trans2 (HS33.out.trans2 (HS34.out.trans2 (HS35.out.trans2 (HS36.out.trans2 (HS37.out.trans2 (HS38.out.trans2 (HS39.out.trans2 (HS40.out.trans2 (HS41.out.trans2 (HS42.out.trans2 (HS43.out.trans2 (HS44.out.trans2 HS45.out)))))))))))))))))))))))))))))))))))))))))))))).drop (fun x hS => by first | exact False.elim hS | omega | (simp only [false_or, or_false, or_self] at hS <;> omega))
  have HFIN := hide hfin
  have HK47 := hide hk47
  clear hfin hk47
  go_wp2_with fail
  go_ret
  exact ⟨rfl, HFIN.out.trans' HK47.out⟩
end Go.Proofs.Ytoghdhjeopcjkaa
