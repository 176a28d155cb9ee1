/- ExtentsLent: the walk: whatever the input, it answers true. Conditions: numbers of an int; the moves can be read. -/
import Derived.Test.YtoghdhjeopcjkaaRefP
import Derived.Test.YtoghdhjeopcjkaaSlS
namespace Go.Proofs.Ytoghdhjeopcjkaa
open Go.RowKit Go.Deep

theorem newPool_good {w : World} {S : Sh} (ok : S.Ok) {v : Value} {L : Sps} {on : Nat → Bool} (hv : RdS w v L) (hlen : L.length ≤ 1099511627776) (hg : goodTo S L L.length) (ho : onOf L L.length = on) :
    Calls Try.prog 14 #[.agg #[.int .i64 S.pages, .int .i64 S.inodes, .int .i64 S.cores, .int .i64 S.data], v] w fun e w' => ∃ pb wb cap, e = .returned (.tuple #[.pointer (some ⟨pb, 0, none⟩), .int .i64 0]) ∧ w.heap.size ≤ pb ∧ w.heap.size ≤ wb ∧
      PoolAt w' pb wb cap S on ∧ Kp [] w w' := by
  refine (newPool_any S ok v L w hv hlen).mono ?_
  rintro e w' ⟨hk, ⟨_, pb, wb, cap, rfl, h1, h2, h3⟩ | ⟨hno, _⟩⟩
  · rw [ho] at h3
    exact ⟨pb, wb, cap, rfl, h1, h2, h3, hk⟩
  · exact absurd hg hno
theorem full_slices {w : World} {base : Nat} {v : Value} {R : List Nat} {rn : Nat} {bad : Int} (h : OwnI w base v (nis R ++ [bad, -71, -72])) (hr : R.length = rn) :
    ∃ ya yc s2 s3, v = .slice ya (rn + 3) yc ∧ (∀ W, (Instr.slice 49 (.slice ya (rn + 3) yc) none (some (.int .i64 ((rn : Int) + 1))) none).run Try.prog W = .ok s2 W) ∧
      (∀ W, (Instr.slice 49 (.slice ya (rn + 3) yc) none (some (.int .i64 (rn : Int))) none).run Try.prog W = .ok s3 W) ∧
      Hid ((∀ W, RdI W (.slice ya (rn + 3) yc) (nis R ++ [bad, -71, -72]) → RdI W s2 (nis R ++ [bad])) ∧ (∀ W, RdI W (.slice ya (rn + 3) yc) (nis R ++ [bad, -71, -72]) → RdI W s3 (nis R)) ∧
        (∀ x, s2.ownBlock = some x → Value.ownBlock (.slice ya (rn + 3) yc) = some x) ∧ (∀ x, s3.ownBlock = some x → Value.ownBlock (.slice ya (rn + 3) yc) = some x)) := by
  have hl16 : (nis R ++ [bad, -71, -72]).length = rn + 3 := by simp [nis_length]; exact hr
  obtain ⟨ya, yc, hv16⟩ := h.form
  rw [hl16] at hv16
  subst hv16
  obtain ⟨s2, hs2r, hs2, hs2b⟩ := head_ints h hl16.symm (rn + 1) (by omega)
  obtain ⟨s3, hs3r, hs3, hs3b⟩ := head_ints h hl16.symm rn (by omega)
  rw [show (nis R ++ [bad, -71, -72]).take (rn + 1) = nis R ++ [bad] from by rw [← hr, ← nis_length R, List.take_append, List.take_of_length_le (Nat.le_succ _)]; simp] at hs2
  rw [show (nis R ++ [bad, -71, -72]).take rn = nis R from by rw [← hr, ← nis_length R]; simp] at hs3
  exact ⟨ya, yc, s2, s3, rfl, hs2r, hs3r, hs2, hs3, hs2b, hs3b⟩
set_option maxHeartbeats 600000 in
set_option maxRecDepth 100000 in
theorem lent_walk (p c bad : Int) (v : Value) (l : List Mv) (w : World) (hp : I64 p) (hc : I64 c) (hbad : I64 bad) (hv : RdM w v l) (hvl : ∀ x, v.ownBlock = some x → x < w.heap.size) (hlen : l.length ≤ 9223372036854775807) :
    Calls Try.prog 6 #[.int .i64 p, .int .i64 c, v, .int .i64 bad] w fun e w' => e = .returned (.bool true) ∧ Kp [] w w' := by
  have hdI : I64 (p.tdiv 3) := tdiv_i64 hp 3 (by omega)
  obtain ⟨S, hS⟩ : ∃ S, S = shp p (p.tdiv 3) c := ⟨_, rfl⟩
  have ok : S.Ok := by rw [hS]; exact shp_ok _ _ _
  have o1 := ok.p2; have o2 := ok.c1; have o3 := ok.c2; have o4 := ok.d2
  obtain ⟨hp1, hp2⟩ := hp
  have hp : I64 p := ⟨hp1, hp2⟩
  have HP := hide hp
  have HC := hide hc
  have HBAD := hide hbad
  have HS := hide hS
  have OK := hide ok
  have HV := hide hv
  have HVL := hide hvl
  have HD := hide hdI
  clear hp hc hbad hS ok hv hvl hdI
  go_enter Try.func6, Try.ntmps6
  go_wp2_with fail
  refine (shape_any _ _ _ HP.out HD.out HC.out _).mono ?_
  rw [← HS.out]
  rintro e w1 ⟨rfl, hk1⟩
  have hsh1 : ShAt (w1.alloc (.cells #[.int .i64 S.pages, .int .i64 S.inodes, .int .i64 S.cores, .int .i64 S.data] 23)) w1.heap.size S := blk_new _ _
  have hc1 := hsh1.cells
  have hkw1 : Kp [] w (w1.alloc (.cells #[.int .i64 S.pages, .int .i64 S.inodes, .int .i64 S.cores, .int .i64 S.data] 23)) := hk1.alloc _
  have HSH1 := hide hsh1
  have HKW1 := hide hkw1
  clear hsh1 hkw1
  clear hk1
  go_wp2_with fail
  go_region_held3 (fun w' => w'.cell? ⟨w1.heap.size, 0, none⟩ = some (.int .i64 S.pages) ∧ w'.cell? ⟨w1.heap.size, 1, none⟩ = some (.int .i64 S.inodes) ∧ w'.cell? ⟨w1.heap.size, 2, none⟩ = some (.int .i64 S.cores) ∧ w'.cell? ⟨w1.heap.size, 3, none⟩ = some (.int .i64 S.data))
    (first | exact z4 | exact z3 | exact hc1)
    (first
      | (go_at_call 19; refine (whole_any _ _ _ _ (by omega) (by omega) (by omega) _).mono ?_; rintro e w3 ⟨v3, rfl, hown3, hk3⟩; have hsh3 := HSH1.out.keep ((Kp.refl [] _).drew.trans' hk3) (by simp); have z3 := hsh3.cells; have HO3 := hide hown3; have HSH3 := hide hsh3; have HK3 := hide hk3; clear hown3 hsh3 hk3)
      | (go_at_call 14; refine (newPool_whole OK.out HO3.out).mono ?_; rintro e w4 ⟨pb, wb, cap, rfl, hpb, hwb, hpool, hk4⟩; have hsh4 := HSH3.out.keep hk4 (by simp); have z4 := hsh4.cells))
  have hk04 : Kp [] w w4 := HKW1.out.trans' ((Kp.refl [] _).drew.trans' (HK3.out.trans' hk4))
  have hs34 := (HKW1.out.trans' ((Kp.refl [] _).drew.trans' HK3.out)).size
  have hpl := hpool.m.lt
  have hwl := hpool.m.wlt
  have hmk := run_make_row' (P := Try.prog) 40 4 (.bool false) 1 Try.underlying40 Try.info_bool rfl .i64 .i64 S.pages (by omega) (by omega)
  obtain ⟨z40, z41, z42, z43⟩ := z4
  have hsl4 := blk_lt hsh4
  have HPOOL := hide hpool
  have HK04 := hide hk04
  have HSH4 := hide hsh4
  clear hpool hk04 hsh4
  clear hk4 z3 hc1
  go_wp2_with fail
  go_region_held3 (fun w' => w'.cell? ⟨w1.heap.size, 0, none⟩ = some (.int .i64 S.pages) ∧ w'.cell? ⟨w1.heap.size, 1, none⟩ = some (.int .i64 S.inodes) ∧ w'.cell? ⟨w1.heap.size, 2, none⟩ = some (.int .i64 S.cores) ∧ w'.cell? ⟨w1.heap.size, 3, none⟩ = some (.int .i64 S.data))
    (first | exact ⟨z40, z41, z42, z43⟩ | exact blk4 (blk_alloc HSH4.out _) | exact blk4 (blk_alloc (blk_alloc HSH4.out _) _))
    (fail)
  clear hmk
  have hb1 : ((w4.alloc (.cells (madeCells #[.bool false] S.pages) 4)).alloc (.cells #[.int .i64 S.pages, .int .i64 S.inodes, .int .i64 S.cores, .int .i64 S.data, .slice (some ⟨w4.heap.size, 0, none⟩) S.pages S.pages, .int .i64 0] 42)).heap[w4.heap.size + 1]? = some (.cells #[.int .i64 S.pages, .int .i64 S.inodes, .int .i64 S.cores, .int .i64 S.data, .slice (some ⟨w4.heap.size, 0, none⟩) S.pages S.pages, .int .i64 0] 42 (0, 0)) := blk_new' (by simp) _
  have hkb : Kp [] w4 ((w4.alloc (.cells (madeCells #[.bool false] S.pages) 4)).alloc (.cells #[.int .i64 S.pages, .int .i64 S.inodes, .int .i64 S.cores, .int .i64 S.data, .slice (some ⟨w4.heap.size, 0, none⟩) S.pages S.pages, .int .i64 0] 42)) := ((Kp.refl [] w4).alloc _).alloc _
  have hbo : Both ((w4.alloc (.cells (madeCells #[.bool false] S.pages) 4)).alloc (.cells #[.int .i64 S.pages, .int .i64 S.inodes, .int .i64 S.cores, .int .i64 S.data, .slice (some ⟨w4.heap.size, 0, none⟩) S.pages S.pages, .int .i64 0] 42)) pb wb cap (w4.heap.size + 1) w4.heap.size S (fun _ => false) :=
    ⟨HPOOL.out.keep hkb (by simp) (by simp), book_new hb1 (blk_alloc (blk_new _ _) _) (by omega), fun i hi => by simp at hi, by omega, by omega, by omega, by omega⟩
  generalize hW : (w4.alloc (.cells (madeCells #[.bool false] S.pages) 4)).alloc (.cells #[.int .i64 S.pages, .int .i64 S.inodes, .int .i64 S.cores, .int .i64 S.data, .slice (some ⟨w4.heap.size, 0, none⟩) S.pages S.pages, .int .i64 0] 42) = w5 at hbo hkb ⊢
  have hk05 := HK04.out.trans' hkb
  have hsh5 := HSH4.out.keep hkb (by simp)
  have hs5 := hkb.size
  have hs04 := HK04.out.size
  have HBO := hide hbo
  have HK05 := hide hk05
  have HSH5 := hide hsh5
  clear hbo hk05 hsh5
  clear hkb hb1 hW z40 z41 z42 z43
  go_wp2_with fail
  refine (played_any (HBO.out.keep0 (by first | exact (Kp.refl _ _).drewN _ | exact (Kp.refl _ _).drew)) v l (HV.out.keep (HK05.out.trans' (by first | exact (Kp.refl _ _).drewN _ | exact (Kp.refl _ _).drew)) (by simp)) (fun x hx => by have := HVL.out x hx; omega) hlen).mono ?_
  rintro e w6 ⟨rfl, held, hbo6, hk6⟩
  have hs13 := blk_lt HSH3.out
  have hkw6 : Kp [] w w6 := (HK05.out.trans' ((Kp.refl _ _).drew)).trans hk6 (by simp; omega)
  have hsh6 := (HSH5.out.keep ((Kp.refl [] _).drew) (by simp)).keep hk6 (by simp; omega)
  obtain ⟨sc60, sc61, sc62, sc63⟩ := hsh6.cells
  obtain ⟨bc60, bc62, bc63, bc64, bc65⟩ := hbo6.book.cells
  have hsz6 : w5.heap.size ≤ w6.heap.size := hk6.size
  have hcf := cnt_free hbo6.area
  have hcl := cnt_le held S.pages
  have hfl : (freeL S held).length = cnt (freeOf S held) S.pages := by rcases freeL_length (S := S) (held := held) with h | h; exact h; omega
  have HSH6 := hide hsh6
  have HBO6 := hide hbo6
  have HKW6 := hide hkw6
  clear hsh6 hbo6 hkw6
  clear hk6
  go_wp2_with fail
  refine (pSpans_any HBO6.out.pool).mono ?_
  rw [runs_free]
  rintro e w7 ⟨v7, rfl, hown7, hk7⟩
  have hsh7 := HSH6.out.keep hk7 (by simp)
  have hbo7 := HBO6.out.keep0 hk7
  have hkw7 := HKW6.out.trans' hk7
  obtain ⟨sc70, sc71, sc72, sc73⟩ := hsh7.cells
  obtain ⟨bc70, bc72, bc73, bc74, bc75⟩ := hbo7.book.cells
  have hsz7 := (hk7).size
  have HSH7 := hide hsh7
  have HBO7 := hide hbo7
  have HKW7 := hide hkw7
  clear hsh7 hbo7 hkw7
  clear sc60 sc61 sc62 sc63 bc60 bc62 bc63 bc64 bc65
  have HO7 := hide hown7
  clear hown7
  clear hk7
  go_wp2_with fail
  refine (copySpans_any HO7.out.src (by have := spansOf_length (freeL S held); omega)).mono ?_
  rintro e w8 ⟨v8, rfl, hown8, hk8⟩
  have hsh8 := HSH7.out.keep hk8 (by simp)
  have hbo8 := HBO7.out.keep0 hk8
  have hkw8 := HKW7.out.trans' hk8
  obtain ⟨sc80, sc81, sc82, sc83⟩ := hsh8.cells
  obtain ⟨bc80, bc82, bc83, bc84, bc85⟩ := hbo8.book.cells
  have hsz8 := (hk8).size
  have HSH8 := hide hsh8
  have HBO8 := hide hbo8
  have HKW8 := hide hkw8
  clear hsh8 hbo8 hkw8
  clear sc70 sc71 sc72 sc73 bc70 bc72 bc73 bc74 bc75
  have HO8 := hide hown8
  clear hown8
  clear hk8
  obtain ⟨fl, hfl2⟩ : ∃ fl, (freeL S held).length = fl := ⟨_, rfl⟩
  obtain ⟨D, hD⟩ : ∃ D, S.pages - S.data = D := ⟨_, rfl⟩
  have hflb : fl ≤ 1024 := by omega
  have hcfl : cnt (freeOf S held) S.pages = fl := by omega
  have hDb : D ≤ 1024 := by omega
  have hgood := good_free S held
  have hon := onOf_free S held
  have hsb : (spansOf (freeL S held)).length ≤ fl := by have := spansOf_length (freeL S held); omega
  generalize hL : spansOf (freeL S held) = L at HO8 HO7 hgood hon hsb
  obtain ⟨sn, hsn⟩ : ∃ sn, L.length = sn := ⟨_, rfl⟩
  rw [hsn] at hsb
  obtain ⟨fa, fc, hv8⟩ := HO8.out.form
  rw [hsn] at hv8
  subst hv8
  have HFL := hide hfl
  have HFL2 := hide hfl2
  have HDD := hide hD
  have HCF := hide hcfl
  have HGOOD := hide hgood
  have HON := hide hon
  have HL := hide hL
  have HSN := hide hsn
  clear hfl hfl2 hD hcfl hgood hon hL hsn
  clear hcf
  go_wp2_with fail
  refine (copySpans_any HO8.out.src (by rw [HSN.out]; omega)).mono ?_
  rintro e w9 ⟨v9, rfl, hown9, hk9⟩
  have ho89 := HO8.out.keep hk9 (by simp)
  have hs89 := hk9.size
  have hs07 := HKW7.out.size
  have HO9 := hide hown9
  have HO89 := hide ho89
  have HK9 := hide hk9
  clear hown9 ho89 hk9
  clear sc80 sc81 sc82 sc83 bc80 bc82 bc83 bc84 bc85
  go_wp2_with (at_builtin; refine app_spans rfl _ _ rfl w8.heap.size v9 L rfl (HO9.out.keep ((Kp.refl [] _).alloc _) (by simp)) _ [(-5, 77), (-6, 78)] rfl (src_blk (blk_new' (by simp) _) 2 2) (by rw [HSN.out]; omega) (by simp) (by simp; omega) ?_; intro v10 w10 hown10 hgr10 _; have hk10 : Kp [] w8 w10 := (HK9.out.alloc _).grown hgr10 (fun x hx => .inr (HO9.out.lt x hx).1); have HO10 := hide hown10; have HK10 := hide hk10; clear hown10 hk10 hgr10)
  have hk10 := HK10.out
  have hown10 := HO10.out
  have hs10 := hk10.size
  obtain ⟨na, nc, hv10⟩ := hown10.form
  have hl2 : (L ++ [((-5 : Int), (77 : Int)), (-6, 78)]).length = sn + 2 := by simp; exact HSN.out
  rw [hl2] at hv10
  subst hv10
  obtain ⟨s1, hs1r, hs1, hs1b⟩ := cut_spans hown10 hl2.symm sn (by omega)
  rw [show (L ++ [((-5 : Int), (77 : Int)), (-6, 78)]).take sn = L from by rw [← HSN.out]; simp] at hs1
  have hsh10 := HSH8.out.keep hk10 (by simp)
  obtain ⟨sc100, sc101, sc102, sc103⟩ := hsh10.cells
  have hnb10 := hown10.lt
  have HS1 := hide hs1
  have HS1B := hide hs1b
  have HL2 := hide hl2
  have HNB := hide hnb10
  clear hs1 hs1b hl2 hnb10
  clear hk10 hown10
  go_wp2_with fail
  go_region_held3 (fun w' => w'.cell? ⟨w1.heap.size, 0, none⟩ = some (.int .i64 S.pages) ∧ w'.cell? ⟨w1.heap.size, 1, none⟩ = some (.int .i64 S.inodes) ∧ w'.cell? ⟨w1.heap.size, 2, none⟩ = some (.int .i64 S.cores) ∧ w'.cell? ⟨w1.heap.size, 3, none⟩ = some (.int .i64 S.data))
    (first | exact ⟨sd0, sd1, sd2, sd3⟩ | exact ⟨sc100, sc101, sc102, sc103⟩)
    ((go_at_call 14; refine (newPool_good OK.out (HS1.out _ (HO10.out.rd.keep (Kp.drew (Kp.refl [] _)) (by simp))) (by rw [HSN.out]; omega) HGOOD.out HON.out).mono ?_; rintro e w11 ⟨qb, qw, qc, rfl, hqb, hqw, hq, hk11⟩; have sd0 := hk11.cell (a := ⟨w1.heap.size, 0, none⟩) sc100 (by simp); have sd1 := hk11.cell (a := ⟨w1.heap.size, 1, none⟩) sc101 (by simp); have sd2 := hk11.cell (a := ⟨w1.heap.size, 2, none⟩) sc102 (by simp); have sd3 := hk11.cell (a := ⟨w1.heap.size, 3, none⟩) sc103 (by simp)))
  have hk1011 : Kp [] w10 w11 := (Kp.drew (Kp.refl [] w10)).trans' hk11
  have hs11 := hk1011.size
  have hqb2 : w10.heap.size ≤ qb := hqb
  have hqw2 : w10.heap.size ≤ qw := hqw
  have hk811 := HK10.out.trans' hk1011
  have hql := hq.m.lt
  have hqwl := hq.m.wlt
  have HQ11 := hide hq
  have HK1011 := hide hk1011
  have HK811 := hide hk811
  clear hq hk1011 hk811
  clear hk11 hqb hqw hsh10 sc100 sc101 sc102 sc103
  go_wp2_with fail
  refine (pSpans_any HQ11.out).mono ?_
  rw [runs_free, HL.out]
  rintro e w12 ⟨v12, rfl, hown12, hk12⟩
  have hk812 := HK811.out.trans' hk12
  have hs12 := hk12.size
  have hq12 := HQ11.out.keep hk12 (by simp) (by simp)
  have HO12 := hide hown12
  have HK812 := hide hk812
  have HQ12 := hide hq12
  have HK1112 := hide hk12
  clear hown12 hk812 hq12 hk12
  go_wp2_with fail
  refine (sameSpans_eq HO12.out.rd (HO8.out.rd.keep HK812.out (by simp)) (by rw [HSN.out]; omega)).mono ?_
  rintro e w13 ⟨rfl, k13, rfl⟩
  have hb12 := HBO8.out.keep0 (HK812.out.drewN k13)
  obtain ⟨sd0, sd1, sd2, sd3⟩ := (HSH8.out.keep (HK812.out.drewN k13) (by simp)).cells
  have HBO12 := hide hb12
  clear hb12
  go_wp2_with fail
  refine (some_ok HBO12.out.book OK.out _ _ S.pages 0 rfl rfl (by omega) (by omega)).mono ?_
  rintro e w14 ⟨v14, rfl, hown14, _, hk14⟩
  have hall := minus_all OK.out HBO8.out.area (a := 0) (n := S.pages) (by omega)
  have hRn : (someTo S held 0 S.pages (S.pages - S.data)).Nodup := some_nodup (Nat.le_refl _)
  have hRl := some_length2 S held 0 S.pages (S.pages - S.data)
  have hRm : ∀ i ∈ someTo S held 0 S.pages (S.pages - S.data), S.data ≤ i ∧ i < S.pages ∧ held i = true := fun i hi => by
    have h := (mem_some hi).2
    exact ⟨(HBO8.out.area i h).1, (HBO8.out.area i h).2, h⟩
  have hRall : ∀ i, S.data ≤ i → i < S.pages → held i = true → i ∈ someTo S held 0 S.pages (S.pages - S.data) := fun i h1 h2 h3 => some_all OK.out (by omega) h1 h2 h3
  generalize hR : someTo S held 0 S.pages (S.pages - S.data) = R at hown14 hall hRn hRl hRm hRall
  have hk814 : Kp [w4.heap.size + 1, w4.heap.size] w8 w14 := ((HK812.out.drewN k13).mono (by simp)).trans' hk14
  have hk1114 : Kp [w4.heap.size + 1, w4.heap.size] w12 w14 := ((Kp.refl _ _).drewN k13).trans' hk14
  have hb68 := HBO6.out.book.lt
  have hq14 := HQ12.out.keep hk1114 (by simp; omega) (by simp; omega)
  have hw14 := HKW8.out.trans hk814 (by simp; have := HK05.out.size; omega)
  have hs14 := hk814.size
  have hs1214 := hk1114.size
  have hlt14 := hown14.lt
  have hnl := HO8.out.lt
  have ho814 := HO8.out.keep hk814 (fun x hx => by have := hnl x hx; simp; omega)
  have ho1014 := (HO10.out.keep (HK1011.out) (by simp))
  obtain ⟨rn, hrn⟩ : ∃ rn, R.length = rn := ⟨_, rfl⟩
  rw [hrn] at hRl
  obtain ⟨va, vc, hv14⟩ := hown14.form
  rw [nis_length, hrn] at hv14
  subst hv14
  have hlt14b : ∀ x, (Value.slice va rn vc).ownBlock = some x → w12.heap.size ≤ x ∧ x < w14.heap.size := hlt14
  have HO14 := hide hown14
  have HALL := hide hall
  have HRN := hide hRn
  have HRM := hide hRm
  have HRA := hide hRall
  have HRL := hide hrn
  have HK814 := hide hk814
  have HQ14 := hide hq14
  have HW14 := hide hw14
  have HLT14 := hide hlt14b
  have HF14 := hide ho814
  have HNL := hide hnl
  have HK1214 := hide hk1114
  clear hown14 hall hRn hRm hRall hrn hk814 hq14 hw14 hlt14b ho814 hnl hk1114
  clear hk14 hlt14 sd0 sd1 sd2 sd3 hR ho1014
  go_wp2_with fail
  refine (copyInts_any HO14.out.src (by rw [nis_length, HRL.out]; omega)).mono ?_
  rintro e w15 ⟨v15, rfl, hown15, hk15⟩
  have ho1415 := HO14.out.keep hk15 (by simp)
  have hlt15 := hown15.lt
  have hs15 := hk15.size
  have HO15 := hide hown15
  have HK15 := hide hk15
  have HO1415 := hide ho1415
  have HLT15 := hide hlt15
  clear hown15 hk15 ho1415 hlt15
  go_wp2_with (at_builtin; refine app_ints rfl _ _ rfl w14.heap.size v15 (nis R) rfl (HO15.out.keep ((Kp.refl [] _).alloc _) (by simp)) _ [bad, -71, -72] rfl (src_blk (blk_new' (by simp) _) 3 3) (by rw [nis_length, HRL.out]; omega) (by simp) (by simp; omega) ?_; intro v16 w16 hown16 hgr16 _; have hk16 : Kp [] w14 w16 := (HK15.out.alloc _).grown hgr16 (fun x hx => .inr (HLT15.out x hx).1); obtain ⟨ya, yc, s2, s3, rfl, hs2r, hs3r, HSS⟩ := full_slices hown16 HRL.out; have HO16 := hide hown16; have HK16 := hide hk16; clear hown16 hk16 hgr16)
  have hk16 := HK16.out
  have hown16 := HO16.out
  have hs16 := hk16.size
  have hl16 : (nis R ++ [bad, -71, -72]).length = rn + 3 := by simp [nis_length]; exact HRL.out
  obtain ⟨hs2, hs3, hs2b, hs3b⟩ := HSS.out
  have hnb16 := hown16.lt
  have hq16 := HQ14.out.keep hk16 (by simp) (by simp)
  obtain ⟨c0, hc0, hcond⟩ : ∃ c0 : Int, (c0 = 51 ∨ c0 = 52) ∧ ((¬ inTo S (nis R ++ [bad]) (nis R ++ [bad]).length ∧ c0 = 52) ∨ (inTo S (nis R ++ [bad]) (nis R ++ [bad]).length ∧ tw (freeOf S held) (nis R ++ [bad]) (nis R ++ [bad]).length = true ∧ c0 = 51)) := by
    by_cases hin : (S.data : Int) ≤ bad ∧ bad < S.pages
    · refine ⟨51, .inl rfl, .inr ⟨inTo_iff.2 fun y hy => ?_, ?_, rfl⟩⟩
      · rw [List.mem_append] at hy
        rcases hy with hy | hy
        · obtain ⟨i, hi, rfl⟩ := List.mem_map.1 hy
          have := HRM.out i hi
          omega
        · simp at hy; subst hy; exact hin
      · obtain ⟨b0, rfl⟩ := Int.eq_ofNat_of_zero_le (show 0 ≤ bad by omega)
        cases hh : held b0 with
        | false => exact tw_mid_on (nis R) [] (freeOf_true.2 ⟨by omega, by omega, hh⟩)
        | true => exact tw_mid_dup (nis R) [] (by rw [List.append_nil]; exact List.mem_map.2 ⟨b0, HRA.out b0 (by omega) (by omega) hh, rfl⟩)
    · exact ⟨52, .inr rfl, .inl ⟨not_inTo_mid (nis R) [] hin, rfl⟩⟩
  have hc0e : (c0 == 0) = false := by simp; omega
  have hrnb : rn ≤ 1024 := by omega
  have HS2 := hide hs2
  have HS2B := hide hs2b
  have HS3 := hide hs3
  have HS3B := hide hs3b
  have HL16 := hide hl16
  have HQ16 := hide hq16
  have HCOND := hide hcond
  have HNB16 := hide hnb16
  clear hs2 hs2b hs3 hs3b hl16 hq16 hcond hnb16
  clear hk16 hown16 hc0
  have hd16 : ∀ x, s2.ownBlock = some x → x ≠ qb ∧ x ≠ qw := fun x hx => by have := HNB16.out x (HS2B.out x hx); omega
  refine (pGive_bad HQ16.out s2 (nis R ++ [bad]) (HS2.out _ HO16.out.rd) hd16 (by simp [nis_length]; have := HRL.out; omega) c0 HCOND.out).mono ?_
  rintro e w17 ⟨rfl, hq17, hk17⟩
  have ho17 := HO16.out.keep hk17 (fun x hx => by have := HNB16.out x hx; simp; omega)
  have hs17 := hk17.size
  have HQ17 := hide hq17
  have HK17 := hide hk17
  have HO17 := hide ho17
  clear hq17 hk17 ho17
  clear hd16
  go_wp2_with fail
  have hd17 : ∀ x, s3.ownBlock = some x → x ≠ qb ∧ x ≠ qw := fun x hx => by have := HNB16.out x (HS3B.out x hx); omega
  refine (pGive_back HQ17.out s3 R (HS3.out _ HO17.out.rd) hd17 (by have := HRL.out; omega) HRN.out HRM.out).mono ?_
  rw [HALL.out]
  rintro e w18 ⟨rfl, hq18, hk18⟩
  have ho18 := HO17.out.keep hk18 (fun x hx => by have := HNB16.out x hx; simp; omega)
  have hk1418 : Kp [qb, qw] w14 w18 := (HK16.out.mono (by simp)).trans' (HK17.out.trans' hk18)
  have ho1418 := HO14.out.keep hk1418 (fun x hx => by have := HLT14.out x hx; simp; omega)
  have HQ18 := hide hq18
  have HK18 := hide hk1418
  have HO18 := hide ho18
  have HO1418 := hide ho1418
  clear hq18 hk1418 ho18 ho1418
  clear hd17 hk18
  go_wp2_with fail
  refine (sameInts_eq (HS3.out _ HO18.out.rd) HO1418.out.rd (by rw [nis_length, HRL.out]; omega)).mono ?_
  rintro e w19 ⟨rfl, k19, rfl⟩
  have hc16 : ∃ g16, ya = some ⟨g16, 0, none⟩ ∧ w18.cell? ⟨g16, rn, none⟩ = some (.int .i64 bad) ∧ w18.cell? ⟨g16, rn + 1, none⟩ = some (.int .i64 (-71)) ∧ w18.cell? ⟨g16, rn + 2, none⟩ = some (.int .i64 (-72)) := by
    have h := HO18.out
    rcases h.cases with ⟨_, h2⟩ | ⟨g16, cc, h1, _⟩
    · have := congrArg List.length h2; simp at this
    · injection h1 with h3 h4 h5
      subst h3
      have hn := HRL.out
      have hx : ∀ j (z : Int), [bad, -71, -72][j]? = some z → gi (nis R ++ [bad, -71, -72]) (rn + j) = z := fun j z hz => by
        simp only [gi]
        rw [List.getElem?_append_right (by rw [nis_length]; omega), nis_length, show rn + j - R.length = j by omega, hz]; rfl
      refine ⟨g16, rfl, ?_, ?_, ?_⟩
      · have hx0 := hx 0 bad rfl; rw [Nat.add_zero] at hx0; have := h.cell HL16.out.symm rn (by rw [HL16.out]; omega); rw [hx0] at this; exact this
      · have := h.cell HL16.out.symm (rn + 1) (by rw [HL16.out]; omega); rw [hx 1 _ rfl] at this; exact this
      · have := h.cell HL16.out.symm (rn + 2) (by rw [HL16.out]; omega); rw [hx 2 _ rfl] at this; exact this
  obtain ⟨g16, rfl, hc160, hc161, hc162⟩ := hc16
  have i1 : (rn : Int) < ((rn + 3 : Nat) : Int) := by omega
  have i2 : (rn : Int) + 1 < ((rn + 3 : Nat) : Int) := by omega
  have i3 : (rn : Int) + 2 < ((rn + 3 : Nat) : Int) := by omega
  have hk1018 : Kp [w4.heap.size + 1, w4.heap.size, qb, qw] w10 w18 := ((HK1011.out.trans' HK1112.out).mono (T := [w4.heap.size + 1, w4.heap.size, qb, qw]) (by simp)).trans' ((HK1214.out.mono (T := [w4.heap.size + 1, w4.heap.size, qb, qw]) (by simp)).trans' (HK18.out.mono (T := [w4.heap.size + 1, w4.heap.size, qb, qw]) (by simp)))
  have ho1018 := HO10.out.keep hk1018 (fun x hx => by have := HNB.out x hx; simp; omega)
  have hf18 := HF14.out.keep HK18.out (fun x hx => by have := HNL.out x hx; simp; omega)
  have hc10 : ∃ g10, na = some ⟨g10, 0, none⟩ ∧ w18.cell? ⟨g10, sn * 2, none⟩ = some (.int .i64 (-5)) ∧ w18.cell? ⟨g10, sn * 2 + 1, none⟩ = some (.int .i64 77) ∧ w18.cell? ⟨g10, (sn + 1) * 2, none⟩ = some (.int .i64 (-6)) ∧ w18.cell? ⟨g10, (sn + 1) * 2 + 1, none⟩ = some (.int .i64 78) := by
    rcases ho1018.cases with ⟨_, h2⟩ | ⟨g10, cc, h1, _⟩
    · have := congrArg List.length h2; simp at this
    · injection h1 with h3 h4 h5
      subst h3
      have hn := HSN.out
      have e0 := ho1018.cell HL2.out.symm sn (by rw [HL2.out]; omega)
      have e1 := ho1018.cell HL2.out.symm (sn + 1) (by rw [HL2.out]; omega)
      have f0 : (L ++ [((-5 : Int), (77 : Int)), (-6, 78)])[sn]? = some (-5, 77) := by rw [List.getElem?_append_right (by omega), show sn - L.length = 0 by omega]; rfl
      have f1 : (L ++ [((-5 : Int), (77 : Int)), (-6, 78)])[sn + 1]? = some (-6, 78) := by rw [List.getElem?_append_right (by omega), show sn + 1 - L.length = 1 by omega]; rfl
      simp only [fr, ct, f0, f1, Option.getD_some] at e0 e1
      exact ⟨g10, rfl, e0.1, e0.2, e1.1, e1.2⟩
  obtain ⟨g10, rfl, hc100, hc101, hc102, hc103⟩ := hc10
  have j1 : (sn : Int) < ((sn + 2 : Nat) : Int) := by omega
  have j2 : (sn : Int) + 1 < ((sn + 2 : Nat) : Int) := by omega
  have hk818 : Kp [w4.heap.size + 1, w4.heap.size, qb, qw] w8 w18 := (HK814.out.mono (T := [w4.heap.size + 1, w4.heap.size, qb, qw]) (by simp)).trans' (HK18.out.mono (T := [w4.heap.size + 1, w4.heap.size, qb, qw]) (by simp))
  obtain ⟨se0, se1, se2, se3⟩ := (HSH8.out.keep hk818 (by simp; omega)).cells
  have hkw18 : Kp [] w w18 := HW14.out.trans HK18.out (by have := HW14.out.size; have := HKW8.out.size; simp; omega)
  have hfr : ∀ m, Calls Try.prog 15 #[.pointer (some ⟨qb, 0, none⟩)] (w18.drewN m) fun e w' => e = .returned (.int .i64 D) ∧ ∃ k, w' = (w18.drewN m).drewN k := fun m => by
    refine (pFree_any (HQ18.out.drewN m)).mono ?_
    rw [cnt_freeNone, HDD.out]
    rintro e w19 ⟨rfl, rfl⟩
    exact ⟨rfl, 0, rfl⟩
  have HO1018 := hide ho1018
  have HF18 := hide hf18
  have HKW18 := hide hkw18
  have HFR := hide hfr
  clear ho1018 hf18 hkw18 hfr
  clear hk1018 hk818
  go_wp2_with fail
  refine (sameSpans_eq ((HS1.out _ HO1018.out.rd).keep ((Kp.refl [] _).drewN _) (by simp)) (HF18.out.rd.keep ((Kp.refl [] _).drewN _) (by simp)) (by rw [HSN.out]; omega)).mono ?_
  rintro e w20 ⟨rfl, k20, rfl⟩
  have seq := span_eql
  have eD : IntKind.i64.wrap ((S.pages : Int) - (S.data : Int)) = (D : Int) := by have := HDD.out; rw [IntKind.wrap_i64]; omega
  go_wp2_with fail
  go_quiet ((go_at_call 15; exact reads_on HFR.out _ _))
  go_wp2_with fail
  go_ret
  exact ⟨rfl, (HKW18.out.drewN _).drewN _⟩
end Go.Proofs.Ytoghdhjeopcjkaa
