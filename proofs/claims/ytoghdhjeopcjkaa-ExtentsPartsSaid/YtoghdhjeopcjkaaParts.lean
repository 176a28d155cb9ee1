/- ExtentsParts: the walk: whatever the input, it answers true. Conditions: numbers of an int; the moves can be read. -/
import Derived.Test.YtoghdhjeopcjkaaAgrees
import Derived.Test.YtoghdhjeopcjkaaRefP
namespace Go.Proofs.Ytoghdhjeopcjkaa
open Go.RowKit Go.Deep

set_option maxHeartbeats 4000000 in
set_option maxRecDepth 100000 in
theorem parts_walk (p c : Int) (v : Value) (l : List Mv) (w : World) (hp : I64 p) (hc : I64 c) (hv : RdM w v l) (hvl : ∀ x, v.ownBlock = some x → x < w.heap.size) (hlen : l.length ≤ 9223372036854775807) :
    Calls Try.prog 9 #[.int .i64 p, .int .i64 c, v] w fun e w' => e = .returned (.bool true) ∧ Kp [] w w' := by
  have hdI : I64 (p.tdiv 7) := tdiv_i64 hp 7 (by omega)
  obtain ⟨S, hS⟩ : ∃ S, S = shp p (p.tdiv 7) c := ⟨_, rfl⟩
  have ok : S.Ok := by rw [hS]; exact shp_ok _ _ _
  have o1 := ok.p2; have o2 := ok.c1; have o3 := ok.c2; have o4 := ok.d2
  obtain ⟨hp1, hp2⟩ := hp
  have hp : I64 p := ⟨hp1, hp2⟩
  have HP := hide hp
  have HC := hide hc
  have HS := hide hS
  have OK := hide ok
  have HV := hide hv
  have HVL := hide hvl
  have HD := hide hdI
  clear hp hc hS ok hv hvl hdI
  go_enter Try.func9, Try.ntmps9
  go_wp2_with fail
  refine (shape_any _ _ _ HP.out HD.out HC.out _).mono ?_
  rw [← HS.out]
  rintro e w1 ⟨rfl, hk1⟩
  have hsh1 : ShAt (w1.alloc (.cells #[.int .i64 S.pages, .int .i64 S.inodes, .int .i64 S.cores, .int .i64 S.data] 23)) w1.heap.size S := blk_new _ _
  have hc1 := hsh1.cells
  have hkw1 : Kp [] w (w1.alloc (.cells #[.int .i64 S.pages, .int .i64 S.inodes, .int .i64 S.cores, .int .i64 S.data] 23)) := hk1.alloc _
  have HSH1 := hide hsh1
  have HKW1 := hide hkw1
  clear hsh1 hkw1
  clear hk1
  go_wp2_with fail
  go_region_held3 (fun w' => w'.cell? ⟨w1.heap.size, 0, none⟩ = some (.int .i64 S.pages) ∧ w'.cell? ⟨w1.heap.size, 1, none⟩ = some (.int .i64 S.inodes) ∧ w'.cell? ⟨w1.heap.size, 2, none⟩ = some (.int .i64 S.cores) ∧ w'.cell? ⟨w1.heap.size, 3, none⟩ = some (.int .i64 S.data))
    (first | exact z4 | exact z3 | exact hc1)
    (first
      | (go_at_call 19; refine (whole_any _ _ _ _ (by omega) (by omega) (by omega) _).mono ?_; rintro e w3 ⟨v3, rfl, hown3, hk3⟩; have hsh3 := HSH1.out.keep ((Kp.refl [] _).drew.trans' hk3) (by simp); have z3 := hsh3.cells; have HO3 := hide hown3; have HSH3 := hide hsh3; have HK3 := hide hk3; clear hown3 hsh3 hk3)
      | (go_at_call 14; refine (newPool_whole OK.out HO3.out).mono ?_; rintro e w4 ⟨pb, wb, cap, rfl, hpb, hwb, hpool, hk4⟩; have hsh4 := HSH3.out.keep hk4 (by simp); have z4 := hsh4.cells))
  have hk04 : Kp [] w w4 := HKW1.out.trans' ((Kp.refl [] _).drew.trans' (HK3.out.trans' hk4))
  have hs34 := (HKW1.out.trans' ((Kp.refl [] _).drew.trans' HK3.out)).size
  have hpl := hpool.m.lt
  have hwl := hpool.m.wlt
  have hmk := run_make_row' (P := Try.prog) 40 4 (.bool false) 1 Try.underlying40 Try.info_bool rfl .i64 .i64 S.pages (by omega) (by omega)
  obtain ⟨z40, z41, z42, z43⟩ := z4
  have hsl4 := blk_lt hsh4
  have HPOOL := hide hpool
  have HK04 := hide hk04
  have HSH4 := hide hsh4
  clear hpool hk04 hsh4
  clear hk4 z3 hc1
  go_wp2_with fail
  go_region_held3 (fun w' => w'.cell? ⟨w1.heap.size, 0, none⟩ = some (.int .i64 S.pages) ∧ w'.cell? ⟨w1.heap.size, 1, none⟩ = some (.int .i64 S.inodes) ∧ w'.cell? ⟨w1.heap.size, 2, none⟩ = some (.int .i64 S.cores) ∧ w'.cell? ⟨w1.heap.size, 3, none⟩ = some (.int .i64 S.data))
    (first | exact ⟨z40, z41, z42, z43⟩ | exact blk4 (blk_alloc HSH4.out _) | exact blk4 (blk_alloc (blk_alloc HSH4.out _) _))
    (fail)
  clear hmk
  have hb1 : ((w4.alloc (.cells (madeCells #[.bool false] S.pages) 4)).alloc (.cells #[.int .i64 S.pages, .int .i64 S.inodes, .int .i64 S.cores, .int .i64 S.data, .slice (some ⟨w4.heap.size, 0, none⟩) S.pages S.pages, .int .i64 0] 42)).heap[w4.heap.size + 1]? = some (.cells #[.int .i64 S.pages, .int .i64 S.inodes, .int .i64 S.cores, .int .i64 S.data, .slice (some ⟨w4.heap.size, 0, none⟩) S.pages S.pages, .int .i64 0] 42 (0, 0)) := blk_new' (by simp) _
  have hkb : Kp [] w4 ((w4.alloc (.cells (madeCells #[.bool false] S.pages) 4)).alloc (.cells #[.int .i64 S.pages, .int .i64 S.inodes, .int .i64 S.cores, .int .i64 S.data, .slice (some ⟨w4.heap.size, 0, none⟩) S.pages S.pages, .int .i64 0] 42)) := ((Kp.refl [] w4).alloc _).alloc _
  have hbo : Both ((w4.alloc (.cells (madeCells #[.bool false] S.pages) 4)).alloc (.cells #[.int .i64 S.pages, .int .i64 S.inodes, .int .i64 S.cores, .int .i64 S.data, .slice (some ⟨w4.heap.size, 0, none⟩) S.pages S.pages, .int .i64 0] 42)) pb wb cap (w4.heap.size + 1) w4.heap.size S (fun _ => false) :=
    ⟨HPOOL.out.keep hkb (by simp) (by simp), book_new hb1 (blk_alloc (blk_new _ _) _) (by omega), fun i hi => by simp at hi, by omega, by omega, by omega, by omega⟩
  generalize hW : (w4.alloc (.cells (madeCells #[.bool false] S.pages) 4)).alloc (.cells #[.int .i64 S.pages, .int .i64 S.inodes, .int .i64 S.cores, .int .i64 S.data, .slice (some ⟨w4.heap.size, 0, none⟩) S.pages S.pages, .int .i64 0] 42) = w5 at hbo hkb ⊢
  have hk05 := HK04.out.trans' hkb
  have hsh5 := HSH4.out.keep hkb (by simp)
  have hs5 := hkb.size
  have hs04 := HK04.out.size
  have HBO := hide hbo
  have HK05 := hide hk05
  have HSH5 := hide hsh5
  clear hbo hk05 hsh5
  clear hkb hb1 hW z40 z41 z42 z43
  have hs13 := blk_lt HSH3.out
  obtain ⟨a, lc, hve, hrd⟩ := HV.out
  subst hve
  have HR := hide hrd
  clear hrd
  have hs05 := HK05.out.size
  go_wp2_with fail
  go_loopw [11] (fun i wr => ∃ k : Nat, ∃ hd : Nat → Bool, k ≤ l.length ∧ i = .int .i64 k ∧ Both wr pb wb cap (w4.heap.size + 1) w4.heap.size S hd ∧ Kp [pb, wb, w4.heap.size + 1, w4.heap.size] w5 wr) (fun i _ => l.length - (intOf i).toNat)
  case atStart => exact ⟨0, fun _ => false, by omega, rfl, HBO.out.keep0 (by first | exact (Kp.refl _ _).drewN _ | exact (Kp.refl _ _).drew), (by first | exact (Kp.refl _ _).drewN _ | exact (Kp.refl _ _).drew)⟩
  case round =>
    obtain ⟨k, hd, hk, rfl, hbo, hkp⟩ := hrel
    by_cases hlt : k < l.length
    · rcases HR.out with hnil | ⟨g, o, rfl, hrd⟩
      · subst hnil; simp at hlt
      have hgb := HVL.out g rfl
      obtain ⟨q0, q1, q2, q3, q4⟩ := hrd k hlt
      have hk5 : Kp [pb, wb, w4.heap.size + 1, w4.heap.size] w wr := (HK05.out.mono (by simp)).trans' hkp
      have hgl : g ∉ [pb, wb, w4.heap.size + 1, w4.heap.size] := by simp; omega
      have m0 := hk5.cell q0 hgl
      have m1 := hk5.cell q1 hgl
      have m2 := hk5.cell q2 hgl
      generalize mvb l k = mb at q0 m0
      generalize mvn l k = N at q1 m1 q3
      generalize mvm l k = M at q2 m2 q4
      have hws := hkp.size
      have hbl := hbo.pool.m.lt
      have hwl := hbo.pool.m.wlt
      have hbkl := hbo.book.lt
      have hhl := hbo.book.hlt
      have hshr := HSH5.out.keep hkp (by simp; omega)
      obtain ⟨s0, s1, s2, s3⟩ := hshr.cells
      obtain ⟨y0, y2, y3, y4, y5⟩ := hbo.book.cells
      have i1 : (0 : Int) ≤ (k : Int) := by omega
      have i2 : (k : Int) < (l.length : Int) := by omega
      have hbo9 := hbo
      have HBO9 := hide hbo
      have HKP := hide hkp
      have Q3 := hide q3
      have Q4 := hide q4
      have HGL := hide hgl
      have HSH9 := hide hshr
      clear hbo hkp q3 q4 hgl hshr
      clear hrd q0 q1 q2 hk5
      cases mb with
      | true =>
        obtain ⟨n1, hn1⟩ : ∃ n1 : Nat, N % 40 = (n1 : Int) := ⟨(N % 40).toNat, by omega⟩
        obtain ⟨a1, ha1⟩ : ∃ a1 : Nat, M % (S.pages : Int) = (a1 : Int) := ⟨(M % (S.pages : Int)).toNat, by have := Int.emod_nonneg M (show (S.pages : Int) ≠ 0 by omega); omega⟩
        have hn1b : n1 ≤ 40 := by omega
        have ha1b : a1 ≤ 1024 := by have := Int.emod_lt_of_pos M (show (0 : Int) < (S.pages : Int) by omega); omega
        have HN1 := hide hn1
        have HA1 := hide ha1
        clear hn1 ha1
        go_wp2_with fail
        go_region_held3 (fun w' => w'.cell? ⟨g, o + k * 3 + 1, none⟩ = some (.int .i64 N) ∧ w'.cell? ⟨g, o + k * 3 + 2, none⟩ = some (.int .i64 M) ∧ w'.cell? ⟨w1.heap.size, 0, none⟩ = some (.int .i64 S.pages))
          (first | exact ⟨z1, z2, z3⟩ | exact ⟨m1, m2, s0⟩)
          (first
            | (go_at_call 24; refine (place_any _ _ (by omega) (by omega) (by first | exact Q3.out.swap | exact Q4.out.swap) _).mono ?_; (first | rw [HN1.out] | rw [HA1.out]); rintro e w9 ⟨rfl, rfl⟩)
            | (go_at_call 25; refine (some_ok (HBO9.out.book.keep ((Kp.refl [] _).drew) (by simp) (by simp)) OK.out _ _ n1 a1 rfl rfl (by omega) (by omega)).mono ?_; rintro e wz ⟨v5, rfl, hown5, hbk5, hkz⟩; have z1 := hkz.cell (a := ⟨g, o + k * 3 + 1, none⟩) m1 (by simp; omega); have z2 := hkz.cell (a := ⟨g, o + k * 3 + 2, none⟩) m2 (by simp; omega); have z3 := hkz.cell (a := ⟨w1.heap.size, 0, none⟩) s0 (by simp; omega)))
        obtain ⟨R, hR⟩ : ∃ R, someTo S hd a1 n1 (S.pages - S.data) = R := ⟨_, rfl⟩
        rw [hR] at hown5 hbk5
        have hRm : ∀ i ∈ R, hd i = true := fun i hi => by rw [← hR] at hi; exact (mem_some hi).2
        have hRn : R.Nodup := by rw [← hR]; exact some_nodup (Nat.le_refl _)
        have hRl : R.length ≤ 40 := by have := some_length S hd a1 n1 (S.pages - S.data); rw [hR] at this; omega
        have hlt5 := hown5.lt
        have hp5 := HBO9.out.pool.keep (((Kp.refl [w4.heap.size + 1, w4.heap.size] _).drew).trans' hkz) (by simp; exact ⟨HBO9.out.ne1, HBO9.out.ne2⟩) (by simp; exact ⟨HBO9.out.ne3, HBO9.out.ne4⟩)
        have hkp5 : Kp [pb, wb, w4.heap.size + 1, w4.heap.size] w5 wz := HKP.out.trans' ((Kp.refl _ _).drew.trans hkz (by simp))
        have hRa : ∀ i ∈ R, S.data ≤ i ∧ i < S.pages ∧ hd i = true := fun i hi => ⟨(HBO9.out.area i (hRm i hi)).1, (HBO9.out.area i (hRm i hi)).2, hRm i hi⟩
        have HOWN5 := hide hown5
        have HBK5 := hide hbk5
        have HKP5 := hide hkp5
        have HP5 := hide hp5
        have HLT5 := hide hlt5
        have HRN := hide hRn
        have HRA := hide hRa
        clear hown5 hbk5 hkp5 hp5 hlt5 hRn hRa
        clear hkz hR z1 z2 z3 hRm
        go_wp2_with fail
        refine (pGive_back HP5.out v5 R HOWN5.out.rd (fun x hx => by have := HLT5.out x hx; simp at this; omega) (by omega) HRN.out HRA.out).mono ?_
        rintro e w6 ⟨rfl, hp6, hk6⟩
        have hb6 : Both w6 pb wb cap (w4.heap.size + 1) w4.heap.size S (minus hd R) := ⟨hp6, HBK5.out.keep hk6 (by simp; exact ⟨HBO9.out.ne1.symm, HBO9.out.ne3.symm⟩) (by simp; exact ⟨HBO9.out.ne2.symm, HBO9.out.ne4.symm⟩), HBO9.out.area.minus, HBO9.out.ne1, HBO9.out.ne2, HBO9.out.ne3, HBO9.out.ne4⟩
        have hkp6 := HKP5.out.trans hk6 (by simp)
        have HB6 := hide hb6
        have HKP6 := hide hkp6
        clear hb6 hkp6
        clear hp6 hk6
        have hm4 : k % 4 = 3 ∨ ¬ k % 4 = 3 := Decidable.em _
        rcases hm4 with hm4 | hm4
        · have t1 : ((k : Int) % 4 == 3) = true := by simp; omega
          clear hm4
          go_wp2_with fail
          refine (agrees_ok HB6.out).mono ?_
          rintro e w9 ⟨rfl, hk9⟩
          go_wp2_with fail
          go_roundw
          case rel => exact ⟨k + 1, (minus hd R), by omega, by go_num, HB6.out.keep0 hk9, HKP6.out.trans' (hk9.mono (by simp))⟩
          case measure => simp [intOf]; omega
        · have t1 : ((k : Int) % 4 == 3) = false := by simp; omega
          clear hm4
          by_cases hkl : k + 1 = l.length
          · have t2 : ((k : Int) + 1 == (l.length : Int)) = true := by simp; omega
            have HKL := hide hkl
            clear hkl
            go_wp2_with fail
            refine (agrees_ok HB6.out).mono ?_
            rintro e w9 ⟨rfl, hk9⟩
            go_wp2_with fail
            go_roundw
            case rel => exact ⟨k + 1, (minus hd R), by omega, by go_num, HB6.out.keep0 hk9, HKP6.out.trans' (hk9.mono (by simp))⟩
            case measure => simp [intOf]; omega
          · have t2 : ((k : Int) + 1 == (l.length : Int)) = false := by simp; omega
            clear hkl
            go_wp2_with fail
            go_roundw
            case rel => exact ⟨k + 1, (minus hd R), by omega, by go_num, HB6.out, HKP6.out⟩
            case measure => simp [intOf]; omega
      | false =>
        obtain ⟨c1, hc1⟩ : ∃ c1 : Nat, N % (S.cores : Int) = (c1 : Int) := ⟨(N % (S.cores : Int)).toNat, by have := Int.emod_nonneg N (show (S.cores : Int) ≠ 0 by omega); omega⟩
        obtain ⟨n1, hn1⟩ : ∃ n1 : Nat, M % 40 = (n1 : Int) := ⟨(M % 40).toNat, by omega⟩
        have hn1b : n1 ≤ 40 := by omega
        have hc1b : c1 < S.cores := by have := Int.emod_lt_of_pos N (show (0 : Int) < (S.cores : Int) by omega); omega
        have hcf := cnt_free hbo9.area
        have hcl := cnt_le hd S.pages
        obtain ⟨fl, hfl⟩ : ∃ fl, cnt (freeOf S hd) S.pages = fl := ⟨_, rfl⟩
        obtain ⟨D, hD⟩ : ∃ D, S.pages - S.data = D := ⟨_, rfl⟩
        obtain ⟨mn, hmn⟩ : ∃ mn, cnt hd S.pages = mn := ⟨_, rfl⟩
        rw [hmn] at y5 hcl
        have e1 : IntKind.i64.wrap ((S.pages : Int) - (S.data : Int)) = (D : Int) := by rw [IntKind.wrap_i64]; omega
        have e2 : IntKind.i64.wrap ((D : Int) - (mn : Int)) = (fl : Int) := by rw [IntKind.wrap_i64]; omega
        have hflb : fl ≤ 1024 := by omega
        have HN1 := hide hn1
        have HC1 := hide hc1
        have HFL := hide hfl
        have HMN := hide hmn
        clear hn1 hc1 hfl hmn
        clear hcf hD
        go_wp2_with fail
        refine (place_any _ _ (by omega) (by omega) Q4.out.swap _).mono ?_
        rw [HN1.out]
        rintro e w9 ⟨rfl, rfl⟩
        go_wp2_with fail
        go_quiet (fail)
        go_wp2_with fail
        clear e1 e2
        by_cases hfull : n1 ≤ fl
        · have t3 : decide ((n1 : Int) ≤ (fl : Int)) = true := by simp; omega
          have t4 : decide (n1 ≤ fl) = true := by simp; omega
          go_region_held3 (fun w' => w'.cell? ⟨g, o + k * 3 + 1, none⟩ = some (.int .i64 N) ∧ w'.cell? ⟨w1.heap.size, 2, none⟩ = some (.int .i64 S.cores))
            (first | exact ⟨z1, z3⟩ | exact ⟨m1, s2⟩)
            (first
              | (go_at_call 24; refine (place_any _ _ (by omega) (by omega) Q3.out.swap _).mono ?_; rw [HC1.out]; rintro e w9 ⟨rfl, rfl⟩)
              | (go_at_call 23; refine (pTake_ok (HBO9.out.pool.keep (by exact (Kp.refl [] wr).drewN (nq + 1)) (by simp) (by simp)) _ _ c1 n1 rfl rfl hc1b (by rw [HFL.out]; exact hfull)).mono ?_; rintro e wz ⟨v5, rfl, hown5, hp5, hkz⟩; have z1 := hkz.cell (a := ⟨g, o + k * 3 + 1, none⟩) m1 (by simp; omega); have z3 := hkz.cell (a := ⟨w1.heap.size, 2, none⟩) s2 (by simp; omega)))
          obtain ⟨P, hP⟩ : ∃ P, (order S (freeOf S hd) c1).take n1 = P := ⟨_, rfl⟩
          have htold := take_told (held := hd) (n := n1) OK.out hc1b
          have hPn : P.length = n1 := by
            rw [← hP, List.length_take, order_length (on := freeOf S hd) OK.out hc1b (fun i hi => freeOf_low hi), HFL.out, Nat.min_eq_left hfull]
          rw [hP] at hown5 hp5 htold
          have hlt5 := hown5.lt
          have hk9z : Kp [pb, wb] wr wz := ((Kp.refl [pb, wb] wr).drewN (nq + 1)).trans' hkz
          have hbk5 := HBO9.out.book.keep hk9z (by simp; exact ⟨HBO9.out.ne1.symm, HBO9.out.ne3.symm⟩) (by simp; exact ⟨HBO9.out.ne2.symm, HBO9.out.ne4.symm⟩)
          have hkp5 : Kp [pb, wb, w4.heap.size + 1, w4.heap.size] w5 wz := HKP.out.trans' (hk9z.mono (by simp))
          have hsl := spansOf_length P
          have x5 := hbk5.cells.2.2.2.2
          rw [HMN.out] at x5 hbk5
          have HOWN5 := hide hown5
          have HBK5 := hide hbk5
          have HKP5 := hide hkp5
          have HP5 := hide hp5
          have HLT5 := hide hlt5
          have HTO := hide htold
          have HPN := hide hPn
          clear hown5 hbk5 hkp5 hp5 hlt5 htold hPn
          clear hkz hP z1 z3 hk9z
          go_wp2_with fail
          refine (took_ok HBK5.out v5 (spansOf P) HOWN5.out.rd (fun x hx => by have := HLT5.out x hx; simp at this; omega) o1 (by omega) (by have := HPN.out; omega)
            (span_all fun i hi => ⟨(HTO.out.2 i hi).1, (HTO.out.2 i hi).2.1⟩) (spansOf_apart P) (span_new HTO.out.1 fun i hi => (HTO.out.2 i hi).2.2) (by rw [pagesL_spansOf]; have := HPN.out; omega)).mono ?_
          rw [pagesL_spansOf, HPN.out]
          rintro e w6 ⟨rfl, hbk6, hk6⟩
          have x6 : w6.cell? ⟨w4.heap.size + 1, 5, none⟩ = some (.int .i64 ((mn : Int) + (n1 : Int))) := hbk6.cells.2.2.2.2
          have hb6 : Both w6 pb wb cap (w4.heap.size + 1) w4.heap.size S (plus hd P) := ⟨by rw [← minus_free]; exact HP5.out.keep hk6 (by simp; exact ⟨HBO9.out.ne1, HBO9.out.ne2⟩) (by simp; exact ⟨HBO9.out.ne3, HBO9.out.ne4⟩),
            by rw [cnt_plus HTO.out.1 fun i hi => ⟨(HTO.out.2 i hi).2.1, (HTO.out.2 i hi).2.2⟩, HMN.out, HPN.out]; exact hbk6, HBO9.out.area.plus fun i hi => ⟨(HTO.out.2 i hi).1, (HTO.out.2 i hi).2.1⟩, HBO9.out.ne1, HBO9.out.ne2, HBO9.out.ne3, HBO9.out.ne4⟩
          have hkp6 := HKP5.out.trans hk6 (by simp)
          have HB6 := hide hb6
          have HKP6 := hide hkp6
          clear hb6 hkp6
          clear hbk6 hk6
          have hm4 : k % 4 = 3 ∨ ¬ k % 4 = 3 := Decidable.em _
          rcases hm4 with hm4 | hm4
          · have t1 : ((k : Int) % 4 == 3) = true := by simp; omega
            clear hm4
            go_wp2_with fail
            refine (agrees_ok HB6.out).mono ?_
            rintro e w9 ⟨rfl, hk9⟩
            go_wp2_with fail
            go_roundw
            case rel => exact ⟨k + 1, (plus hd P), by omega, by go_num, HB6.out.keep0 hk9, HKP6.out.trans' (hk9.mono (by simp))⟩
            case measure => simp [intOf]; omega
          · have t1 : ((k : Int) % 4 == 3) = false := by simp; omega
            clear hm4
            by_cases hkl : k + 1 = l.length
            · have t2 : ((k : Int) + 1 == (l.length : Int)) = true := by simp; omega
              have HKL := hide hkl
              clear hkl
              go_wp2_with fail
              refine (agrees_ok HB6.out).mono ?_
              rintro e w9 ⟨rfl, hk9⟩
              go_wp2_with fail
              go_roundw
              case rel => exact ⟨k + 1, (plus hd P), by omega, by go_num, HB6.out.keep0 hk9, HKP6.out.trans' (hk9.mono (by simp))⟩
              case measure => simp [intOf]; omega
            · have t2 : ((k : Int) + 1 == (l.length : Int)) = false := by simp; omega
              clear hkl
              go_wp2_with fail
              go_roundw
              case rel => exact ⟨k + 1, (plus hd P), by omega, by go_num, HB6.out, HKP6.out⟩
              case measure => simp [intOf]; omega
        · have t3 : decide ((n1 : Int) ≤ (fl : Int)) = false := by simp; omega
          have t4 : decide (n1 ≤ fl) = false := by simp; omega
          go_region_held3 (fun w' => w'.cell? ⟨g, o + k * 3 + 1, none⟩ = some (.int .i64 N) ∧ w'.cell? ⟨w1.heap.size, 2, none⟩ = some (.int .i64 S.cores))
            (first | exact ⟨m1, s2⟩)
            (first
              | (go_at_call 24; refine (place_any _ _ (by omega) (by omega) Q3.out.swap _).mono ?_; rw [HC1.out]; rintro e w9 ⟨rfl, rfl⟩)
              | (go_at_call 23; refine (pTake_full (HBO9.out.pool.keep (by exact (Kp.refl [] wr).drewN (nq + 1)) (by simp) (by simp)) _ _ (by omega) (by omega) (by omega) (by rw [HFL.out]; omega)).mono ?_; rintro e w5 ⟨rfl, rfl⟩))
          have hbk5 := HBO9.out.book.keep (by exact (Kp.refl [] wr).drewN (nq + 1)) (by simp) (by simp)
          rw [HMN.out] at hbk5
          have HBK5 := hide hbk5
          clear hbk5
          go_wp2_with fail
          refine (took_ok HBK5.out (.slice none 0 0) [] (RdS.nil _) (fun x hx => by cases hx) o1 (by omega) (by simp) (fun j hj => by simp at hj) (fun j hj => by simp at hj) (fun j hj => by simp at hj) (by simp [pagesL])).mono ?_
          rw [show pagesL [] = [] from rfl, plus_nil]
          rintro e w6 ⟨rfl, hbk6, hk6⟩
          have x6 : w6.cell? ⟨w4.heap.size + 1, 5, none⟩ = some (.int .i64 (mn : Int)) := hbk6.cells.2.2.2.2
          have hk96 : Kp [w4.heap.size + 1, w4.heap.size] wr w6 := ((Kp.refl [w4.heap.size + 1, w4.heap.size] wr).drewN (nq + 1)).trans' hk6
          have hb6 : Both w6 pb wb cap (w4.heap.size + 1) w4.heap.size S hd := ⟨HBO9.out.pool.keep hk96 (by simp; exact ⟨HBO9.out.ne1, HBO9.out.ne2⟩) (by simp; exact ⟨HBO9.out.ne3, HBO9.out.ne4⟩), by rw [HMN.out]; exact hbk6, HBO9.out.area, HBO9.out.ne1, HBO9.out.ne2, HBO9.out.ne3, HBO9.out.ne4⟩
          have hkp6 := HKP.out.trans' (hk96.mono (T := [pb, wb, w4.heap.size + 1, w4.heap.size]) (by simp))
          have HB6 := hide hb6
          have HKP6 := hide hkp6
          clear hb6 hkp6
          clear hbk6 hk6 hk96
          have hm4 : k % 4 = 3 ∨ ¬ k % 4 = 3 := Decidable.em _
          rcases hm4 with hm4 | hm4
          · have t1 : ((k : Int) % 4 == 3) = true := by simp; omega
            clear hm4
            go_wp2_with fail
            refine (agrees_ok HB6.out).mono ?_
            rintro e w9 ⟨rfl, hk9⟩
            go_wp2_with fail
            go_roundw
            case rel => exact ⟨k + 1, hd, by omega, by go_num, HB6.out.keep0 hk9, HKP6.out.trans' (hk9.mono (by simp))⟩
            case measure => simp [intOf]; omega
          · have t1 : ((k : Int) % 4 == 3) = false := by simp; omega
            clear hm4
            by_cases hkl : k + 1 = l.length
            · have t2 : ((k : Int) + 1 == (l.length : Int)) = true := by simp; omega
              have HKL := hide hkl
              clear hkl
              go_wp2_with fail
              refine (agrees_ok HB6.out).mono ?_
              rintro e w9 ⟨rfl, hk9⟩
              go_wp2_with fail
              go_roundw
              case rel => exact ⟨k + 1, hd, by omega, by go_num, HB6.out.keep0 hk9, HKP6.out.trans' (hk9.mono (by simp))⟩
              case measure => simp [intOf]; omega
            · have t2 : ((k : Int) + 1 == (l.length : Int)) = false := by simp; omega
              clear hkl
              go_wp2_with fail
              go_roundw
              case rel => exact ⟨k + 1, hd, by omega, by go_num, HB6.out, HKP6.out⟩
              case measure => simp [intOf]; omega
    · have hkl : k = l.length := by omega
      subst hkl
      have HBO9 := hide hbo
      have HKP := hide hkp
      clear hbo hkp
      go_wp2_with fail
      refine (agrees_ok HBO9.out).mono ?_
      rintro e w9 ⟨rfl, hk9⟩
      go_wp2_with fail
      go_ret
      exact ⟨rfl, (HK05.out.trans HKP.out (by simp; omega)).trans' hk9⟩
end Go.Proofs.Ytoghdhjeopcjkaa
