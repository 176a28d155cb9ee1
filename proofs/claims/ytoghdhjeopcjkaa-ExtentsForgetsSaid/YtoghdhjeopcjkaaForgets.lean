/- ExtentsForgets: the walk: whatever the input, it answers true. Conditions: numbers of an int; the moves can be read. -/
import Derived.Test.YtoghdhjeopcjkaaHelp
import Derived.Test.YtoghdhjeopcjkaaFreeP
namespace Go.Proofs.Ytoghdhjeopcjkaa
open Go.RowKit Go.Deep

set_option maxHeartbeats 600000 in
set_option maxRecDepth 100000 in
theorem forgets_walk (p c co n : Int) (v : Value) (l : List Mv) (w : World) (hp : I64 p) (hc : I64 c) (hco : I64 co) (hn : I64 n) (hv : RdM w v l) (hvl : ∀ x, v.ownBlock = some x → x < w.heap.size) (hlen : l.length ≤ 9223372036854775807) :
    Calls Try.prog 8 #[.int .i64 p, .int .i64 c, v, .int .i64 co, .int .i64 n] w fun e w' => e = .returned (.bool true) ∧ Kp [] w w' := by
  have hdI : I64 (p.tdiv 3) := tdiv_i64 hp 3 (by omega)
  obtain ⟨S, hS⟩ : ∃ S, S = shp p (p.tdiv 3) c := ⟨_, rfl⟩
  have ok : S.Ok := by rw [hS]; exact shp_ok _ _ _
  have o1 := ok.p2; have o2 := ok.c1; have o3 := ok.c2; have o4 := ok.d2
  obtain ⟨hp1, hp2⟩ := hp
  have hp : I64 p := ⟨hp1, hp2⟩
  have HP := hide hp
  have HC := hide hc
  have HCO := hide hco
  have HN := hide hn
  have HS := hide hS
  have OK := hide ok
  have HV := hide hv
  have HVL := hide hvl
  have HD := hide hdI
  clear hp hc hco hn hS ok hv hvl hdI
  go_enter Try.func8, Try.ntmps8
  go_wp2_with fail
  refine (shape_any _ _ _ HP.out HD.out HC.out _).mono ?_
  rw [← HS.out]
  rintro e w1 ⟨rfl, hk1⟩
  have hsh1 : ShAt (w1.alloc (.cells #[.int .i64 S.pages, .int .i64 S.inodes, .int .i64 S.cores, .int .i64 S.data] 23)) w1.heap.size S := blk_new _ _
  have hc1 := hsh1.cells
  have hkw1 : Kp [] w (w1.alloc (.cells #[.int .i64 S.pages, .int .i64 S.inodes, .int .i64 S.cores, .int .i64 S.data] 23)) := hk1.alloc _
  have HSH1 := hide hsh1
  have HKW1 := hide hkw1
  clear hsh1 hkw1
  clear hk1
  go_wp2_with fail
  go_region_held3 (fun w' => w'.cell? ⟨w1.heap.size, 0, none⟩ = some (.int .i64 S.pages) ∧ w'.cell? ⟨w1.heap.size, 1, none⟩ = some (.int .i64 S.inodes) ∧ w'.cell? ⟨w1.heap.size, 2, none⟩ = some (.int .i64 S.cores) ∧ w'.cell? ⟨w1.heap.size, 3, none⟩ = some (.int .i64 S.data))
    (first | exact z4 | exact z3 | exact hc1)
    (first
      | (go_at_call 19; refine (whole_any _ _ _ _ (by omega) (by omega) (by omega) _).mono ?_; rintro e w3 ⟨v3, rfl, hown3, hk3⟩; have hsh3 := HSH1.out.keep ((Kp.refl [] _).drew.trans' hk3) (by simp); have z3 := hsh3.cells; have HO3 := hide hown3; have HSH3 := hide hsh3; have HK3 := hide hk3; clear hown3 hsh3 hk3)
      | (go_at_call 14; refine (newPool_whole OK.out HO3.out).mono ?_; rintro e w4 ⟨pb, wb, cap, rfl, hpb, hwb, hpool, hk4⟩; have hsh4 := HSH3.out.keep hk4 (by simp); have z4 := hsh4.cells))
  have hk04 : Kp [] w w4 := HKW1.out.trans' ((Kp.refl [] _).drew.trans' (HK3.out.trans' hk4))
  have hs34 := (HKW1.out.trans' ((Kp.refl [] _).drew.trans' HK3.out)).size
  have hpl := hpool.m.lt
  have hwl := hpool.m.wlt
  have hmk := run_make_row' (P := Try.prog) 40 4 (.bool false) 1 Try.underlying40 Try.info_bool rfl .i64 .i64 S.pages (by omega) (by omega)
  obtain ⟨z40, z41, z42, z43⟩ := z4
  have hsl4 := blk_lt hsh4
  have HPOOL := hide hpool
  have HK04 := hide hk04
  have HSH4 := hide hsh4
  clear hpool hk04 hsh4
  clear hk4 z3 hc1
  go_wp2_with fail
  go_region_held3 (fun w' => w'.cell? ⟨w1.heap.size, 0, none⟩ = some (.int .i64 S.pages) ∧ w'.cell? ⟨w1.heap.size, 1, none⟩ = some (.int .i64 S.inodes) ∧ w'.cell? ⟨w1.heap.size, 2, none⟩ = some (.int .i64 S.cores) ∧ w'.cell? ⟨w1.heap.size, 3, none⟩ = some (.int .i64 S.data))
    (first | exact ⟨z40, z41, z42, z43⟩ | exact blk4 (blk_alloc HSH4.out _) | exact blk4 (blk_alloc (blk_alloc HSH4.out _) _))
    (fail)
  clear hmk
  have hb1 : ((w4.alloc (.cells (madeCells #[.bool false] S.pages) 4)).alloc (.cells #[.int .i64 S.pages, .int .i64 S.inodes, .int .i64 S.cores, .int .i64 S.data, .slice (some ⟨w4.heap.size, 0, none⟩) S.pages S.pages, .int .i64 0] 42)).heap[w4.heap.size + 1]? = some (.cells #[.int .i64 S.pages, .int .i64 S.inodes, .int .i64 S.cores, .int .i64 S.data, .slice (some ⟨w4.heap.size, 0, none⟩) S.pages S.pages, .int .i64 0] 42 (0, 0)) := blk_new' (by simp) _
  have hkb : Kp [] w4 ((w4.alloc (.cells (madeCells #[.bool false] S.pages) 4)).alloc (.cells #[.int .i64 S.pages, .int .i64 S.inodes, .int .i64 S.cores, .int .i64 S.data, .slice (some ⟨w4.heap.size, 0, none⟩) S.pages S.pages, .int .i64 0] 42)) := ((Kp.refl [] w4).alloc _).alloc _
  have hbo : Both ((w4.alloc (.cells (madeCells #[.bool false] S.pages) 4)).alloc (.cells #[.int .i64 S.pages, .int .i64 S.inodes, .int .i64 S.cores, .int .i64 S.data, .slice (some ⟨w4.heap.size, 0, none⟩) S.pages S.pages, .int .i64 0] 42)) pb wb cap (w4.heap.size + 1) w4.heap.size S (fun _ => false) :=
    ⟨HPOOL.out.keep hkb (by simp) (by simp), book_new hb1 (blk_alloc (blk_new _ _) _) (by omega), fun i hi => by simp at hi, by omega, by omega, by omega, by omega⟩
  generalize hW : (w4.alloc (.cells (madeCells #[.bool false] S.pages) 4)).alloc (.cells #[.int .i64 S.pages, .int .i64 S.inodes, .int .i64 S.cores, .int .i64 S.data, .slice (some ⟨w4.heap.size, 0, none⟩) S.pages S.pages, .int .i64 0] 42) = w5 at hbo hkb ⊢
  have hk05 := HK04.out.trans' hkb
  have hsh5 := HSH4.out.keep hkb (by simp)
  have hs5 := hkb.size
  have hs04 := HK04.out.size
  have HBO := hide hbo
  have HK05 := hide hk05
  have HSH5 := hide hsh5
  clear hbo hk05 hsh5
  clear hkb hb1 hW z40 z41 z42 z43
  go_wp2_with fail
  refine (played_any (HBO.out.keep0 (by first | exact (Kp.refl _ _).drewN _ | exact (Kp.refl _ _).drew)) v l (HV.out.keep (HK05.out.trans' (by first | exact (Kp.refl _ _).drewN _ | exact (Kp.refl _ _).drew)) (by simp)) (fun x hx => by have := HVL.out x hx; omega) hlen).mono ?_
  rintro e w6 ⟨rfl, held, hbo6, hk6⟩
  have hs13 := blk_lt HSH3.out
  have hkw6 : Kp [] w w6 := (HK05.out.trans' ((Kp.refl _ _).drew)).trans hk6 (by simp; omega)
  have hsh6 := (HSH5.out.keep ((Kp.refl [] _).drew) (by simp)).keep hk6 (by simp; omega)
  obtain ⟨sc60, sc61, sc62, sc63⟩ := hsh6.cells
  obtain ⟨bc60, bc62, bc63, bc64, bc65⟩ := hbo6.book.cells
  have hsz6 : w5.heap.size ≤ w6.heap.size := hk6.size
  have hcf := cnt_free hbo6.area
  have hcl := cnt_le held S.pages
  have hfl : (freeL S held).length = cnt (freeOf S held) S.pages := by rcases freeL_length (S := S) (held := held) with h | h; exact h; omega
  have HSH6 := hide hsh6
  have HBO6 := hide hbo6
  have HKW6 := hide hkw6
  clear hsh6 hbo6 hkw6
  clear hk6
  go_wp2_with fail
  refine (pSpans_any HBO6.out.pool).mono ?_
  rw [runs_free]
  rintro e w7 ⟨v7, rfl, hown7, hk7⟩
  have hsh7 := HSH6.out.keep hk7 (by simp)
  have hbo7 := HBO6.out.keep0 hk7
  have hkw7 := HKW6.out.trans' hk7
  obtain ⟨sc70, sc71, sc72, sc73⟩ := hsh7.cells
  obtain ⟨bc70, bc72, bc73, bc74, bc75⟩ := hbo7.book.cells
  have hsz7 := (hk7).size
  have HSH7 := hide hsh7
  have HBO7 := hide hbo7
  have HKW7 := hide hkw7
  clear hsh7 hbo7 hkw7
  clear sc60 sc61 sc62 sc63 bc60 bc62 bc63 bc64 bc65
  have HO7 := hide hown7
  clear hown7
  clear hk7
  go_wp2_with fail
  refine (copySpans_any HO7.out.src (by have := spansOf_length (freeL S held); omega)).mono ?_
  rintro e w8 ⟨v8, rfl, hown8, hk8⟩
  have hsh8 := HSH7.out.keep hk8 (by simp)
  have hbo8 := HBO7.out.keep0 hk8
  have hkw8 := HKW7.out.trans' hk8
  obtain ⟨sc80, sc81, sc82, sc83⟩ := hsh8.cells
  obtain ⟨bc80, bc82, bc83, bc84, bc85⟩ := hbo8.book.cells
  have hsz8 := (hk8).size
  have HSH8 := hide hsh8
  have HBO8 := hide hbo8
  have HKW8 := hide hkw8
  clear hsh8 hbo8 hkw8
  clear sc70 sc71 sc72 sc73 bc70 bc72 bc73 bc74 bc75
  have HO8 := hide hown8
  clear hown8
  clear hk8
  go_wp2_with fail
  obtain ⟨D, hD⟩ : ∃ D, S.pages - S.data = D := ⟨_, rfl⟩
  obtain ⟨fl, hfl2⟩ : ∃ fl, (freeL S held).length = fl := ⟨_, rfl⟩
  have e1 : IntKind.i64.wrap ((S.pages : Int) - (S.data : Int)) = (D : Int) := by rw [IntKind.wrap_i64]; omega
  have e2 : IntKind.i64.wrap ((D : Int) - (cnt held S.pages : Int)) = (fl : Int) := by rw [IntKind.wrap_i64]; omega
  have hflb : fl ≤ 1024 := by omega
  have hPb : ∀ i ∈ freeL S held, i < 1024 := fun i hi => by have := freeOf_true.1 (mem_freeL.1 hi); omega
  have hcount : ∀ k, Calls Try.prog 30 #[v8] (w8.drewN k) fun e w' => e = .returned (.int .i64 fl) ∧ ∃ m, w' = (w8.drewN k).drewN m := fun k => by
    have h := count_any (w := w8.drewN k) (HO8.out.rd.keep ((Kp.refl [] _).drewN _) (by simp)) (by omega) hPb
    rw [hfl2] at h
    exact h
  have HFL := hide hfl
  have HFL2 := hide hfl2
  have HPB := hide hPb
  have HDD := hide hD
  have HCNT := hide hcount
  clear hfl hfl2 hPb hD hcount
  go_quiet ((go_at_call 30; refine Calls.quiet_of (HCNT.out _)))
  go_wp2_with fail
  refine (newPool_any S OK.out v8 (spansOf (freeL S held)) _ (HO8.out.rd.keep ((Kp.refl [] _).drewN _) (by simp)) (by have := spansOf_length (freeL S held); have := HFL2.out; omega)).mono ?_
  rintro e w9 ⟨hk9, ⟨_, qb, qw, qc, rfl, hqb, hqw, hq⟩ | ⟨hno, _⟩⟩
  case inr => exact absurd (good_free S held) hno
  rw [onOf_free] at hq
  have hk89 : Kp [] w8 w9 := ((Kp.refl [] _).drewN _).trans' hk9
  have hsh9 := HSH8.out.keep hk89 (by simp)
  have hbo9 := HBO8.out.keep0 hk89
  have hkw9 := HKW8.out.trans' hk89
  obtain ⟨sc90, sc91, sc92, sc93⟩ := hsh9.cells
  obtain ⟨bc90, bc92, bc93, bc94, bc95⟩ := hbo9.book.cells
  have hsz9 := (hk89).size
  have HSH9 := hide hsh9
  have HBO9 := hide hbo9
  have HKW9 := hide hkw9
  clear hsh9 hbo9 hkw9
  clear sc80 sc81 sc82 sc83 bc80 bc82 bc83 bc84 bc85
  have hqb2 : w8.heap.size ≤ qb := hqb
  have hqw2 : w8.heap.size ≤ qw := hqw
  have HQ9 := hide hq
  have HK89 := hide hk89
  clear hq hk89
  clear hk9 hqb hqw
  obtain ⟨c1, hc1⟩ : ∃ c1 : Nat, co % (S.cores : Int) = (c1 : Int) := ⟨(co % (S.cores : Int)).toNat, by have := Int.emod_nonneg co (show (S.cores : Int) ≠ 0 by omega); omega⟩
  have hc1b : c1 < S.cores := by have := Int.emod_lt_of_pos co (show (0 : Int) < (S.cores : Int) by omega); omega
  obtain ⟨n1, hn1⟩ : ∃ n1 : Nat, n % ((fl : Int) + 1) = (n1 : Int) := ⟨(n % ((fl : Int) + 1)).toNat, by have := Int.emod_nonneg n (show ((fl : Int) + 1) ≠ 0 by omega); omega⟩
  have hn1b : n1 ≤ fl := by have := Int.emod_lt_of_pos n (show (0 : Int) < ((fl : Int) + 1) by omega); omega
  have HC1 := hide hc1
  have HN1 := hide hn1
  clear hc1 hn1
  go_wp2_with fail
  refine (place_any _ _ (by omega) (by omega) HCO.out.swap _).mono ?_
  rw [HC1.out]
  rintro e w10 ⟨rfl, rfl⟩
  go_wp2_with fail
  have hcnt9 := count_any (HO8.out.rd.keep HK89.out (by simp)) (by have := HFL2.out; omega) HPB.out
  rw [HFL2.out] at hcnt9
  refine hcnt9.mono ?_
  clear hcnt9
  rintro e w10 ⟨rfl, kk, rfl⟩
  go_wp2_with fail
  refine (place_any _ _ (by omega) (by omega) HN.out.swap _).mono ?_
  rw [HN1.out]
  rintro e w10 ⟨rfl, rfl⟩
  have hqlt := HQ9.out.m.lt
  have hqwlt := HQ9.out.m.wlt
  have hlt7 := HPOOL.out.m.lt
  have hlt8 := HPOOL.out.m.wlt
  obtain ⟨P, hP⟩ : ∃ P, (order S (freeOf S held) c1).take n1 = P := ⟨_, rfl⟩
  have hta := take_told (held := held) (n := n1) OK.out hc1b
  have hPl : P.length = n1 := by
    rw [← hP, List.length_take, order_length (on := freeOf S held) OK.out hc1b (fun i hi => freeOf_low hi)]
    have e8 := HFL.out
    have e9 := HFL2.out
    rw [Nat.min_eq_left (by omega)]
  rw [hP] at hta
  have hfree : n1 ≤ cnt (freeOf S held) S.pages := by have := HFL.out; have := HFL2.out; omega
  have HPP := hide hP
  have HTA := hide hta
  clear hP hta
  go_wp2_with fail
  refine (pTake_ok (HBO9.out.pool.drewN kk) _ _ c1 n1 rfl rfl hc1b hfree).mono ?_
  rw [HPP.out]
  rintro e w11 ⟨v11, rfl, hown11, hp11, hk11⟩
  have hq11 := HQ9.out.keep (((Kp.refl [pb, wb] _).drewN kk).trans' hk11) (by simp; omega) (by simp; omega)
  have hk911 := ((Kp.refl [pb, wb] w9).drewN kk).trans' hk11
  have hsh11 := HSH9.out.keep hk911 (by simp; omega)
  have hkw11 := HKW9.out.trans hk911 (by simp; omega)
  obtain ⟨sc110, sc111, sc112, sc113⟩ := hsh11.cells
  have hsz11 := hk911.size
  have hlt11 := hown11.lt
  have ho811 := (HO8.out.keep HK89.out (by simp)).keep hk911 (fun x hx => by have := HO8.out.lt x hx; simp; omega)
  have HO11 := hide hown11
  have HP11 := hide hp11
  have HQ11 := hide hq11
  have HSH11 := hide hsh11
  have HKW11 := hide hkw11
  have HLT11 := hide hlt11
  have HF11 := hide ho811
  clear hown11 hp11 hq11 hsh11 hkw11 hlt11 ho811
  clear hk11 hk911 sc90 sc91 sc92 sc93 bc90 bc92 bc93 bc94 bc95
  go_wp2_with fail
  refine (pTake_ok HQ11.out _ _ c1 n1 rfl rfl hc1b hfree).mono ?_
  rw [HPP.out]
  rintro e w12 ⟨v12, rfl, hown12, hq12, hk12⟩
  go_wp2_with fail
  have hp12 := HP11.out.keep hk12 (by simp; omega) (by simp; omega)
  have hsh12 := HSH11.out.keep hk12 (by simp; omega)
  have hkw12 := HKW11.out.trans hk12 (by simp; omega)
  have ho1112 := HO11.out.keep hk12 (fun x hx => by have := HLT11.out x hx; simp at this; simp; omega)
  have ho812 := HF11.out.keep hk12 (fun x hx => by have := HO8.out.lt x hx; have := HO8.out; simp; omega)
  obtain ⟨sc120, sc121, sc122, sc123⟩ := hsh12.cells
  have hsz12 := hk12.size
  have hlt12 := hown12.lt
  have hPb12 : ∀ i ∈ P, i < 1024 := fun i hi => by have := HTA.out.2 i hi; omega
  have HO11b := hide ho1112
  have HO12 := hide hown12
  have HP12 := hide hp12
  have HQ12 := hide hq12
  have HSH12 := hide hsh12
  have HKW12 := hide hkw12
  have HLT12 := hide hlt12
  have HF12 := hide ho812
  have HPB12 := hide hPb12
  have HPL := hide hPl
  clear ho1112 hown12 hp12 hq12 hsh12 hkw12 hlt12 ho812 hPb12 hPl
  clear hk12 sc110 sc111 sc112 sc113
  have hcnt12 := count_any HO11b.out.rd (by have := HPL.out; omega) HPB12.out
  rw [HPL.out] at hcnt12
  refine hcnt12.mono ?_
  clear hcnt12
  rintro e w13 ⟨rfl, k13, rfl⟩
  go_wp2_with fail
  refine (sameSpans_eq (HO11b.out.rd.keep ((Kp.refl [] _).drewN _) (by simp)) (HO12.out.rd.keep ((Kp.refl [] _).drewN _) (by simp)) (by have := spansOf_length P; have := HPL.out; omega)).mono ?_
  rintro e w13 ⟨rfl, k14, rfl⟩
  go_wp2_with fail
  refine (pSpans_any (HP12.out.drewN _)).mono ?_
  rintro e w14 ⟨v14, rfl, hown14, hk14⟩
  have hk1214 : Kp [] w12 w14 := ((Kp.refl [] w12).drewN _).trans' hk14
  have hrl := runsTo_length (minus (freeOf S held) P) S.data (S.pages - S.data)
  generalize hL2 : runs (minus (freeOf S held) P) S.data S.pages = L2 at hown14
  have hL2b : L2.length ≤ 1024 := by rw [← hL2]; show (runsTo _ _ _).length ≤ 1024; omega
  have HO14 := hide hown14
  have HK1214 := hide hk1214
  have HL2 := hide hL2
  clear hown14 hk1214 hL2
  clear hk14 hrl
  go_wp2_with fail
  refine (pSpans_any (HQ12.out.keep HK1214.out (by simp) (by simp))).mono ?_
  rw [HL2.out]
  rintro e w15 ⟨v15, rfl, hown15, hk15⟩
  have hk1215 : Kp [] w12 w15 := HK1214.out.trans' hk15
  have hown14b := HO14.out.keep hk15 (by simp)
  obtain ⟨sc150, sc151, sc152, sc153⟩ := (HSH12.out.keep hk1215 (by simp)).cells
  have hsz15 := hk1215.size
  have HO14b := hide hown14b
  have HO15 := hide hown15
  have HK1215 := hide hk1215
  clear hown14b hown15 hk1215
  clear hk15 sc120 sc121 sc122 sc123
  go_wp2_with fail
  refine (sameSpans_eq HO14b.out.rd HO15.out.rd (by omega)).mono ?_
  rintro e w16 ⟨rfl, k16, rfl⟩
  have seq := span_eql
  have sneq := span_neq
  go_wp2_with fail
  go_loopw [24] (fun i wr => ∃ k : Nat, k ≤ S.cores ∧ i = .int .i64 k ∧ Kp [] w12 wr) (fun i _ => S.cores - (intOf i).toNat)
  case atStart => exact ⟨0, by omega, rfl, HK1215.out.drewN _⟩
  case round =>
    obtain ⟨k, hk, rfl, hkr⟩ := hrel
    have hpk := HP12.out.keep hkr (by simp) (by simp)
    have hqk := HQ12.out.keep hkr (by simp) (by simp)
    obtain ⟨r0, r1, r2, r3⟩ := (HSH12.out.keep hkr (by simp)).cells
    have HPK := hide hpk
    have HQK := hide hqk
    have HKR := hide hkr
    clear hpk hqk hkr
    by_cases hlt : k < S.cores
    · have hlb := Sh.lo_bd OK.out (k + 1) (by omega)
      have hlm := Sh.lo_lt OK.out k
      obtain ⟨F, hF⟩ : ∃ F, S.lo k = F := ⟨_, rfl⟩
      obtain ⟨C, hC⟩ : ∃ C, S.lo (k + 1) = F + C := ⟨S.lo (k + 1) - F, by omega⟩
      go_wp2_with fail
      refine (pCore_in HPK.out _ k rfl hlt).mono ?_
      rintro e x1 ⟨u1, rfl, hox1, hkx1⟩
      have hll := runsTo_length (minus (freeOf S held) P) (S.lo k) (S.lo (k + 1) - S.lo k)
      generalize hL3 : runs (minus (freeOf S held) P) (S.lo k) (S.lo (k + 1)) = L3 at hox1
      have hL3b : L3.length ≤ 1024 := by rw [← hL3]; show (runsTo _ _ _).length ≤ 1024; omega
      rw [hF] at hlm
      rw [hC] at hlb hlm
      have HX1 := hide hox1
      have HKX1 := hide hkx1
      have HL3 := hide hL3
      have HFF := hide hF
      have HCC := hide hC
      clear hox1 hkx1 hL3 hF hC
      clear hll
      go_wp2_with fail
      refine (pCore_in (HQK.out.keep HKX1.out (by simp) (by simp)) _ k rfl hlt).mono ?_
      rw [HL3.out]
      rintro e x2 ⟨u2, rfl, hox2, hkx2⟩
      have hox1b := HX1.out.keep hkx2 (by simp)
      have hkx12 := HKX1.out.trans' hkx2
      have HX1b := hide hox1b
      have HX2 := hide hox2
      have HKX2 := hide hkx12
      clear hox1b hox2 hkx12
      clear hkx2
      go_wp2_with fail
      refine (sameSpans_eq HX1b.out.rd HX2.out.rd (by omega)).mono ?_
      rintro e x3 ⟨rfl, kx, rfl⟩
      go_wp2_with fail
      refine (pArea_as ((HPK.out.keep HKX2.out (by simp) (by simp)).drewN _) _ k F C rfl hlt HFF.out HCC.out).mono ?_
      rintro e x4 ⟨rfl, hkx4⟩
      have hkx14 := HKX2.out.trans' (((Kp.refl [] x2).drewN _).trans' hkx4)
      have HKX4 := hide hkx14
      clear hkx14
      clear hkx4
      go_wp2_with fail
      refine (pArea_as (HQK.out.keep HKX4.out (by simp) (by simp)) _ k F C rfl hlt HFF.out HCC.out).mono ?_
      rintro e x5 ⟨rfl, hkx5⟩
      have hkx15 := HKR.out.trans' (HKX4.out.trans' hkx5)
      have HKX5 := hide hkx15
      clear hkx15
      clear hkx5
      go_wp2_with fail
      go_roundw
      case rel => exact ⟨k + 1, by omega, by go_num, HKX5.out⟩
      case measure => simp [intOf]; omega
    · have hkc : k = S.cores := by omega
      go_wp2_with fail
      refine (pagesOf_any (P := P) (HO11b.out.rd.keep HKR.out (by simp)) (by have := HPL.out; omega) HPB12.out).mono ?_
      rintro e y1 ⟨u1, rfl, hoy1, hky1⟩
      have hlt1 := hoy1.lt
      have hpy1 := HPK.out.keep hky1 (by simp) (by simp)
      have hky01 := HKR.out.trans' hky1
      have hpn : ∀ i ∈ P, minus (freeOf S held) P i = false := fun i hi => by simp [minus, hi]
      have hsr := HKR.out.size
      have hpbl := HPK.out.m.lt
      have hpwl := HPK.out.m.wlt
      have HY1 := hide hoy1
      have HPY1 := hide hpy1
      have HKY1 := hide hky01
      have HLT1 := hide hlt1
      have HPN := hide hpn
      clear hoy1 hpy1 hky01 hlt1 hpn
      clear hky1
      go_wp2_with fail
      refine (pGive_any HPY1.out u1 (nis P) HY1.out.rd (fun x hx => by have := HLT1.out x hx; omega) (by rw [nis_length]; have := HPL.out; omega)).mono ?_
      rintro e y2 ⟨hky2, ⟨hno, _⟩ | ⟨_, hno, _⟩ | ⟨_, _, rfl, hpy2⟩⟩
      case inl => exact absurd (inTo_nis (fun i hi => ⟨(HTA.out.2 i hi).1, (HTA.out.2 i hi).2.1⟩)) hno
      case inr.inl => rw [tw_nis HTA.out.1 HPN.out] at hno; cases hno
      rw [pl_nis, plus_minus (fun i hi => freeOf_true.2 (HTA.out.2 i hi))] at hpy2
      go_wp2_with fail
      have hv8 : ∀ x, v8.ownBlock = some x → x ∉ [pb, wb] := fun x hx => by have := HO8.out.lt x hx; simp; omega
      have hf2 := ((HF12.out.keep HKY1.out (by simp)).keep hky2 hv8)
      have hkw2 := (HKW12.out.trans' HKY1.out).trans hky2 (by simp; omega)
      have HPY2 := hide hpy2
      have HF2 := hide hf2
      have HKW2 := hide hkw2
      clear hpy2 hf2 hkw2
      clear hky2 hv8
      refine (pSpans_any HPY2.out).mono ?_
      rw [runs_free]
      rintro e y3 ⟨u3, rfl, hoy3, hky3⟩
      have hf3 := HF2.out.keep hky3 (by simp)
      have hpy3 := HPY2.out.keep hky3 (by simp) (by simp)
      have hkw3 := HKW2.out.trans' hky3
      have HY3 := hide hoy3
      have HF3 := hide hf3
      have HPY3 := hide hpy3
      have HKW3 := hide hkw3
      clear hoy3 hf3 hpy3 hkw3
      clear hky3
      go_wp2_with fail
      refine (sameSpans_eq HY3.out.rd HF3.out.rd (by have := spansOf_length (freeL S held); have := HFL2.out; omega)).mono ?_
      rintro e y4 ⟨rfl, ky4, rfl⟩
      go_wp2_with fail
      refine (pFree_any (HPY3.out.drewN _)).mono ?_
      rw [show cnt (freeOf S held) S.pages = fl from by have := HFL.out; have := HFL2.out; omega]
      rintro e y5 ⟨rfl, rfl⟩
      go_wp2_with fail
      have hcntz := count_any (HF3.out.rd.keep ((Kp.refl [] _).drewN ky4) (by simp)) (by have := HFL2.out; omega) HPB.out
      rw [HFL2.out] at hcntz
      refine hcntz.mono ?_
      clear hcntz
      rintro e y6 ⟨rfl, ky6, rfl⟩
      go_wp2_with fail
      go_ret
      exact ⟨rfl, HKW3.out.drewN _⟩
end Go.Proofs.Ytoghdhjeopcjkaa
