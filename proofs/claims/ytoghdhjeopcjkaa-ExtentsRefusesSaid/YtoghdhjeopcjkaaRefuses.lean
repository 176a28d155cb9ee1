/- ExtentsRefuses: the walk: whatever the input, it answers true. Conditions: numbers of an int; the moves can be read. -/
import Derived.Test.YtoghdhjeopcjkaaRefP
import Derived.Test.YtoghdhjeopcjkaaSlI
namespace Go.Proofs.Ytoghdhjeopcjkaa
open Go.RowKit Go.Deep

set_option maxHeartbeats 600000 in
set_option maxRecDepth 100000 in
theorem refuses_walk (p c bad at_ : Int) (v : Value) (l : List Mv) (w : World) (hp : I64 p) (hc : I64 c) (hbad : I64 bad) (hat : I64 at_) (hv : RdM w v l) (hvl : ∀ x, v.ownBlock = some x → x < w.heap.size) (hlen : l.length ≤ 9223372036854775807) :
    Calls Try.prog 5 #[.int .i64 p, .int .i64 c, v, .int .i64 bad, .int .i64 at_] w fun e w' => e = .returned (.bool true) ∧ Kp [] w w' := by
  have hdI : I64 (p.tdiv 3) := tdiv_i64 hp 3 (by omega)
  obtain ⟨S, hS⟩ : ∃ S, S = shp p (p.tdiv 3) c := ⟨_, rfl⟩
  have ok : S.Ok := by rw [hS]; exact shp_ok _ _ _
  have o1 := ok.p2; have o2 := ok.c1; have o3 := ok.c2; have o4 := ok.d2
  obtain ⟨hp1, hp2⟩ := hp
  have hp : I64 p := ⟨hp1, hp2⟩
  have HP := hide hp
  have HC := hide hc
  have HBAD := hide hbad
  have HAT := hide hat
  have HS := hide hS
  have OK := hide ok
  have HV := hide hv
  have HVL := hide hvl
  have HD := hide hdI
  clear hp hc hbad hat hS ok hv hvl hdI
  go_enter Try.func5, Try.ntmps5
  go_wp2_with fail
  refine (shape_any _ _ _ HP.out HD.out HC.out _).mono ?_
  rw [← HS.out]
  rintro e w1 ⟨rfl, hk1⟩
  have hsh1 : ShAt (w1.alloc (.cells #[.int .i64 S.pages, .int .i64 S.inodes, .int .i64 S.cores, .int .i64 S.data] 23)) w1.heap.size S := blk_new _ _
  have hc1 := hsh1.cells
  have hkw1 : Kp [] w (w1.alloc (.cells #[.int .i64 S.pages, .int .i64 S.inodes, .int .i64 S.cores, .int .i64 S.data] 23)) := hk1.alloc _
  have HSH1 := hide hsh1
  have HKW1 := hide hkw1
  clear hsh1 hkw1
  clear hk1
  go_wp2_with fail
  go_region_held3 (fun w' => w'.cell? ⟨w1.heap.size, 0, none⟩ = some (.int .i64 S.pages) ∧ w'.cell? ⟨w1.heap.size, 1, none⟩ = some (.int .i64 S.inodes) ∧ w'.cell? ⟨w1.heap.size, 2, none⟩ = some (.int .i64 S.cores) ∧ w'.cell? ⟨w1.heap.size, 3, none⟩ = some (.int .i64 S.data))
    (first | exact z4 | exact z3 | exact hc1)
    (first
      | (go_at_call 19; refine (whole_any _ _ _ _ (by omega) (by omega) (by omega) _).mono ?_; rintro e w3 ⟨v3, rfl, hown3, hk3⟩; have hsh3 := HSH1.out.keep ((Kp.refl [] _).drew.trans' hk3) (by simp); have z3 := hsh3.cells; have HO3 := hide hown3; have HSH3 := hide hsh3; have HK3 := hide hk3; clear hown3 hsh3 hk3)
      | (go_at_call 14; refine (newPool_whole OK.out HO3.out).mono ?_; rintro e w4 ⟨pb, wb, cap, rfl, hpb, hwb, hpool, hk4⟩; have hsh4 := HSH3.out.keep hk4 (by simp); have z4 := hsh4.cells))
  have hk04 : Kp [] w w4 := HKW1.out.trans' ((Kp.refl [] _).drew.trans' (HK3.out.trans' hk4))
  have hs34 := (HKW1.out.trans' ((Kp.refl [] _).drew.trans' HK3.out)).size
  have hpl := hpool.m.lt
  have hwl := hpool.m.wlt
  have hmk := run_make_row' (P := Try.prog) 40 4 (.bool false) 1 Try.underlying40 Try.info_bool rfl .i64 .i64 S.pages (by omega) (by omega)
  obtain ⟨z40, z41, z42, z43⟩ := z4
  have hsl4 := blk_lt hsh4
  have HPOOL := hide hpool
  have HK04 := hide hk04
  have HSH4 := hide hsh4
  clear hpool hk04 hsh4
  clear hk4 z3 hc1
  go_wp2_with fail
  go_region_held3 (fun w' => w'.cell? ⟨w1.heap.size, 0, none⟩ = some (.int .i64 S.pages) ∧ w'.cell? ⟨w1.heap.size, 1, none⟩ = some (.int .i64 S.inodes) ∧ w'.cell? ⟨w1.heap.size, 2, none⟩ = some (.int .i64 S.cores) ∧ w'.cell? ⟨w1.heap.size, 3, none⟩ = some (.int .i64 S.data))
    (first | exact ⟨z40, z41, z42, z43⟩ | exact blk4 (blk_alloc HSH4.out _) | exact blk4 (blk_alloc (blk_alloc HSH4.out _) _))
    (fail)
  clear hmk
  have hb1 : ((w4.alloc (.cells (madeCells #[.bool false] S.pages) 4)).alloc (.cells #[.int .i64 S.pages, .int .i64 S.inodes, .int .i64 S.cores, .int .i64 S.data, .slice (some ⟨w4.heap.size, 0, none⟩) S.pages S.pages, .int .i64 0] 42)).heap[w4.heap.size + 1]? = some (.cells #[.int .i64 S.pages, .int .i64 S.inodes, .int .i64 S.cores, .int .i64 S.data, .slice (some ⟨w4.heap.size, 0, none⟩) S.pages S.pages, .int .i64 0] 42 (0, 0)) := blk_new' (by simp) _
  have hkb : Kp [] w4 ((w4.alloc (.cells (madeCells #[.bool false] S.pages) 4)).alloc (.cells #[.int .i64 S.pages, .int .i64 S.inodes, .int .i64 S.cores, .int .i64 S.data, .slice (some ⟨w4.heap.size, 0, none⟩) S.pages S.pages, .int .i64 0] 42)) := ((Kp.refl [] w4).alloc _).alloc _
  have hbo : Both ((w4.alloc (.cells (madeCells #[.bool false] S.pages) 4)).alloc (.cells #[.int .i64 S.pages, .int .i64 S.inodes, .int .i64 S.cores, .int .i64 S.data, .slice (some ⟨w4.heap.size, 0, none⟩) S.pages S.pages, .int .i64 0] 42)) pb wb cap (w4.heap.size + 1) w4.heap.size S (fun _ => false) :=
    ⟨HPOOL.out.keep hkb (by simp) (by simp), book_new hb1 (blk_alloc (blk_new _ _) _) (by omega), fun i hi => by simp at hi, by omega, by omega, by omega, by omega⟩
  generalize hW : (w4.alloc (.cells (madeCells #[.bool false] S.pages) 4)).alloc (.cells #[.int .i64 S.pages, .int .i64 S.inodes, .int .i64 S.cores, .int .i64 S.data, .slice (some ⟨w4.heap.size, 0, none⟩) S.pages S.pages, .int .i64 0] 42) = w5 at hbo hkb ⊢
  have hk05 := HK04.out.trans' hkb
  have hsh5 := HSH4.out.keep hkb (by simp)
  have hs5 := hkb.size
  have hs04 := HK04.out.size
  have HBO := hide hbo
  have HK05 := hide hk05
  have HSH5 := hide hsh5
  clear hbo hk05 hsh5
  clear hkb hb1 hW z40 z41 z42 z43
  go_wp2_with fail
  refine (played_any (HBO.out.keep0 (by first | exact (Kp.refl _ _).drewN _ | exact (Kp.refl _ _).drew)) v l (HV.out.keep (HK05.out.trans' (by first | exact (Kp.refl _ _).drewN _ | exact (Kp.refl _ _).drew)) (by simp)) (fun x hx => by have := HVL.out x hx; omega) hlen).mono ?_
  rintro e w6 ⟨rfl, held, hbo6, hk6⟩
  have hs13 := blk_lt HSH3.out
  have hkw6 : Kp [] w w6 := (HK05.out.trans' ((Kp.refl _ _).drew)).trans hk6 (by simp; omega)
  have hsh6 := (HSH5.out.keep ((Kp.refl [] _).drew) (by simp)).keep hk6 (by simp; omega)
  obtain ⟨sc60, sc61, sc62, sc63⟩ := hsh6.cells
  obtain ⟨bc60, bc62, bc63, bc64, bc65⟩ := hbo6.book.cells
  have hsz6 : w5.heap.size ≤ w6.heap.size := hk6.size
  have hcf := cnt_free hbo6.area
  have hcl := cnt_le held S.pages
  have hfl : (freeL S held).length = cnt (freeOf S held) S.pages := by rcases freeL_length (S := S) (held := held) with h | h; exact h; omega
  have HSH6 := hide hsh6
  have HBO6 := hide hbo6
  have HKW6 := hide hkw6
  clear hsh6 hbo6 hkw6
  clear hk6
  go_wp2_with fail
  refine (pSpans_any HBO6.out.pool).mono ?_
  rw [runs_free]
  rintro e w7 ⟨v7, rfl, hown7, hk7⟩
  have hsh7 := HSH6.out.keep hk7 (by simp)
  have hbo7 := HBO6.out.keep0 hk7
  have hkw7 := HKW6.out.trans' hk7
  obtain ⟨sc70, sc71, sc72, sc73⟩ := hsh7.cells
  obtain ⟨bc70, bc72, bc73, bc74, bc75⟩ := hbo7.book.cells
  have hsz7 := (hk7).size
  have HSH7 := hide hsh7
  have HBO7 := hide hbo7
  have HKW7 := hide hkw7
  clear hsh7 hbo7 hkw7
  clear sc60 sc61 sc62 sc63 bc60 bc62 bc63 bc64 bc65
  have HO7 := hide hown7
  clear hown7
  clear hk7
  go_wp2_with fail
  refine (copySpans_any HO7.out.src (by have := spansOf_length (freeL S held); omega)).mono ?_
  rintro e w8 ⟨v8, rfl, hown8, hk8⟩
  have hsh8 := HSH7.out.keep hk8 (by simp)
  have hbo8 := HBO7.out.keep0 hk8
  have hkw8 := HKW7.out.trans' hk8
  obtain ⟨sc80, sc81, sc82, sc83⟩ := hsh8.cells
  obtain ⟨bc80, bc82, bc83, bc84, bc85⟩ := hbo8.book.cells
  have hsz8 := (hk8).size
  have HSH8 := hide hsh8
  have HBO8 := hide hbo8
  have HKW8 := hide hkw8
  clear hsh8 hbo8 hkw8
  clear sc70 sc71 sc72 sc73 bc70 bc72 bc73 bc74 bc75
  have HO8 := hide hown8
  clear hown8
  clear hk8
  obtain ⟨fl, hfl2⟩ : ∃ fl, (freeL S held).length = fl := ⟨_, rfl⟩
  obtain ⟨D, hD⟩ : ∃ D, S.pages - S.data = D := ⟨_, rfl⟩
  have e1 : IntKind.i64.wrap ((S.pages : Int) - (S.data : Int)) = (D : Int) := by rw [IntKind.wrap_i64]; omega
  have e2 : IntKind.i64.wrap ((D : Int) - (cnt held S.pages : Int)) = (fl : Int) := by rw [IntKind.wrap_i64]; omega
  have hflb : fl ≤ 1024 := by omega
  have hcfl : cnt (freeOf S held) S.pages = fl := by omega
  have hDb : D ≤ 1024 := by omega
  have HFL := hide hfl
  have HFL2 := hide hfl2
  have HDD := hide hD
  have HCF := hide hcfl
  clear hfl hfl2 hD hcfl
  clear hcf
  go_wp2_with fail
  go_quiet (fail)
  go_wp2_with fail
  obtain ⟨c1, hc1⟩ : ∃ c1 : Nat, at_ % (S.cores : Int) = (c1 : Int) := ⟨(at_ % (S.cores : Int)).toNat, by have := Int.emod_nonneg at_ (show (S.cores : Int) ≠ 0 by omega); omega⟩
  have hc1b : c1 < S.cores := by have := Int.emod_lt_of_pos at_ (show (0 : Int) < (S.cores : Int) by omega); omega
  have HC1 := hide hc1
  clear hc1
  refine (place_any _ _ (by omega) (by omega) HAT.out.swap _).mono ?_
  rw [HC1.out]
  rintro e w9 ⟨rfl, rfl⟩
  go_wp2_with fail
  refine (pTake_full (HBO8.out.pool.drewN nq) _ _ (by omega) (by omega) (by omega) (by rw [HCF.out]; omega)).mono ?_
  rintro e w9 ⟨rfl, rfl⟩
  go_wp2_with fail
  refine (pTake_range (HBO8.out.pool.drewN nq) _ _ (by omega)).mono ?_
  rintro e w9 ⟨rfl, rfl⟩
  go_wp2_with fail
  refine (pTake_range (HBO8.out.pool.drewN nq) _ _ (by omega)).mono ?_
  rintro e w9 ⟨rfl, rfl⟩
  go_wp2_with fail
  refine (pTake_range (HBO8.out.pool.drewN nq) _ _ (by omega)).mono ?_
  rintro e w9 ⟨rfl, rfl⟩
  go_wp2_with fail
  refine (some_ok (HBO8.out.book.drewN nq) OK.out _ _ S.pages 0 rfl rfl (by omega) (by omega)).mono ?_
  rintro e w9 ⟨v9, rfl, hown9, hbk9, hk9⟩
  have hall := minus_all OK.out HBO8.out.area (a := 0) (n := S.pages) (by omega)
  have hRn : (someTo S held 0 S.pages (S.pages - S.data)).Nodup := some_nodup (Nat.le_refl _)
  have hRl := some_length2 S held 0 S.pages (S.pages - S.data)
  have hRm : ∀ i ∈ someTo S held 0 S.pages (S.pages - S.data), S.data ≤ i ∧ i < S.pages ∧ held i = true := fun i hi => by
    have h := (mem_some hi).2
    exact ⟨(HBO8.out.area i h).1, (HBO8.out.area i h).2, h⟩
  generalize hR : someTo S held 0 S.pages (S.pages - S.data) = R at hown9 hall hRn hRl hRm
  have hk89 := ((Kp.refl [w4.heap.size + 1, w4.heap.size] w8).drewN nq).trans' hk9
  have hp9 := HBO8.out.pool.keep hk89 (by simp; exact ⟨HBO8.out.ne1, HBO8.out.ne2⟩) (by simp; exact ⟨HBO8.out.ne3, HBO8.out.ne4⟩)
  have hsh9 := HSH8.out.keep hk89 (by simp; omega)
  have hkw9 := HKW8.out.trans hk89 (by simp; omega)
  have hs89 := hk89.size
  have hb61 := HBO6.out.book.lt
  have ho89 := HO8.out.keep hk89 (fun x hx => by have := HO8.out.lt x hx; simp; omega)
  have hs05 := HK05.out.size
  obtain ⟨sc90, sc91, sc92, sc93⟩ := hsh9.cells
  obtain ⟨rn, hrn⟩ : ∃ rn, R.length = rn := ⟨_, rfl⟩
  rw [hrn] at hRl
  obtain ⟨va, vc, hv9⟩ := hown9.form
  rw [nis_length, hrn] at hv9
  subst hv9
  have hlt9 : ∀ x, (Value.slice va rn vc).ownBlock = some x → w8.heap.size ≤ x := fun x hx => (hown9.lt x hx).1
  have HO9 := hide hown9
  have HP9 := hide hp9
  have HSH9 := hide hsh9
  have HKW9 := hide hkw9
  have HF9 := hide ho89
  have HALL := hide hall
  have HRN := hide hRn
  have HRM := hide hRm
  have HR := hide hR
  have HRL := hide hrn
  have HLT9 := hide hlt9
  clear hown9 hp9 hsh9 hkw9 ho89 hall hRn hRm hR hrn hlt9
  clear hk9 hk89 hbk9 sc80 sc81 sc82 sc83 bc80 bc82 bc83 bc84 bc85
  obtain ⟨k1, hk1⟩ : ∃ k1 : Nat, at_ % ((rn : Int) + 1) = (k1 : Int) := ⟨(at_ % ((rn : Int) + 1)).toNat, by have := Int.emod_nonneg at_ (show ((rn : Int) + 1) ≠ 0 by omega); omega⟩
  have hk1b : k1 ≤ rn := by have := Int.emod_lt_of_pos at_ (show (0 : Int) < ((rn : Int) + 1) by omega); omega
  have HK1 := hide hk1
  clear hk1
  go_wp2_with fail
  refine (place_any _ _ (by omega) (by omega) HAT.out.swap _).mono ?_
  rw [HK1.out]
  rintro e w10 ⟨rfl, rfl⟩
  obtain ⟨s1, s2, hsl1, hsl2, hs1, hs2, ho1, ho2⟩ := cut_ints HO9.out (by rw [nis_length]; exact HRL.out.symm) k1 hk1b
  rw [show (nis R).take k1 = nis (R.take k1) from (List.map_take).symm] at hs1
  rw [show (nis R).drop k1 = nis (R.drop k1) from (List.map_drop).symm] at hs2
  obtain ⟨A, hA⟩ : ∃ A, R.take k1 = A := ⟨_, rfl⟩
  obtain ⟨B, hB⟩ : ∃ B, R.drop k1 = B := ⟨_, rfl⟩
  have hAB : R = A ++ B := by rw [← hA, ← hB, List.take_append_drop]
  have hAl : A.length ≤ 1024 := by have := HRL.out; rw [← hA]; simp; omega
  have hBl : B.length ≤ 1024 := by have := HRL.out; rw [← hB]; simp; omega
  rw [hA] at hs1
  rw [hB] at hs2
  have hbel := HP9.out.m.lt
  have hwel := HP9.out.m.wlt
  have HS1 := hide hs1
  have HS2 := hide hs2
  have HO1 := hide ho1
  have HO2 := hide ho2
  have HAB := hide hAB
  clear hs1 hs2 ho1 ho2 hAB
  clear hA hB
  have hk1w : k1 ≤ rn := hk1b
  go_wp2_with (at_builtin; refine app_ints rfl _ _ rfl w9.heap.size (.slice none 0 0) [] rfl (OwnI.nil _ _) s1 (nis A) rfl HS1.out (by simp) (by rw [nis_length]; omega) (Nat.le_refl _) ?_; intro v10 w10 hown10 hgr10 _)
  simp only [List.nil_append] at hown10
  have hk910 : Kp [] w9 w10 := (Kp.refl [] _).grown hgr10 (fun x hx => by cases hx)
  have hs910 := hk910.size
  obtain ⟨sd0, sd1, sd2, sd3⟩ := (HSH9.out.keep hk910 (by simp)).cells
  have hlt10 := hown10.lt
  have HO10 := hide hown10
  have HK910 := hide hk910
  have HLT10 := hide hlt10
  clear hown10 hk910 hlt10
  clear hgr10 sc90 sc91 sc92 sc93
  have hb4 : bad % 4 = 0 ∨ bad % 4 = 1 ∨ bad % 4 = 2 ∨ bad % 4 = 3 := by omega
  have hsb : (spansOf (freeL S held)).length ≤ fl := by have := spansOf_length (freeL S held); have := HFL2.out; omega
  obtain ⟨fa, fc, hv8⟩ := HF9.out.form
  obtain ⟨sn, hsn⟩ : ∃ sn, (spansOf (freeL S held)).length = sn := ⟨_, rfl⟩
  rw [hsn] at hv8 hsb
  subst hv8
  have HB4 := hide hb4
  have HSN := hide hsn
  clear hb4 hsn
  rcases HB4.out with hb | hb | hb | hb
  · have HBB := hide hb
    clear hb
    refine (place_any _ _ (by omega) (by omega) HBAD.out.swap _).mono ?_
    rw [HBB.out]
    rintro e w11 ⟨rfl, rfl⟩
    go_wp2_with (first
      | (at_builtin; refine app_int rfl _ _ rfl w9.heap.size v10 (nis A) rfl (HO10.out.keep ((Kp.refl [] _).alloc _) (by simp)) _ ((S.data : Int) - 1) _ rfl (blk_new' (by simp) _) (by rw [nis_length]; omega) (by simp; omega) ?_; intro v12 w12 hown12 hgr12 _; have hk912 : Kp [] w9 w12 := (HK910.out.alloc _).grown hgr12 (fun x hx => .inr (HLT10.out x hx).1); have H12 := hide hown12; have HK912 := hide hk912; have HLT12 := hide hown12.lt; have hs912 := hk912.size; clear hown12 hk912 hgr12)
      | (at_builtin; refine app_ints rfl _ _ rfl w9.heap.size v12 (nis A ++ [((S.data : Int) - 1)]) rfl H12.out s2 (nis B) rfl (HS2.out.keep HK912.out (by simp)) (by simp [nis_length]; omega) (by rw [nis_length]; omega) (by omega) ?_; intro v13 w13 hown13 hgr13 _; rw [List.append_assoc, List.singleton_append] at hown13; have hk913 : Kp [] w9 w13 := HK912.out.grown hgr13 (fun x hx => .inr (HLT12.out x hx).1); have hlt13 := hown13.lt; have H13 := hide hown13; have HK913 := hide hk913; have hs913 := hk913.size; clear hown13 hk913 hgr13))
    refine (pGive_bad (HP9.out.keep HK913.out (by simp) (by simp)) v13 _ H13.out.rd (fun x hx => by have := hlt13 x hx; omega) (by simp [nis_length]; omega) 52 (.inl ⟨not_inTo_mid _ _ (by omega), rfl⟩)).mono ?_
    rintro e w14 ⟨rfl, hp14, hk14⟩
    have hk914 : Kp [pb, wb] w9 w14 := (HK913.out.mono (by simp)).trans' hk14
    have hsp14 := HF9.out.keep hk914 (fun x hx => by have := HO8.out.lt x hx; have := HBO6.out.pool.m.lt; have := HBO6.out.pool.m.wlt; simp; omega)
    have hsr14 := HO9.out.keep hk914 (fun x hx => by have := HLT9.out x hx; have := HBO8.out.pool.m.lt; have := HBO8.out.pool.m.wlt; simp; omega)
    have hsh14 := HSH9.out.keep hk914 (by simp; omega)
    have hs914 := hk914.size
    have HP14 := hide hp14
    have HK914 := hide hk914
    have HF14 := hide hsp14
    have HO14 := hide hsr14
    have HSH14 := hide hsh14
    clear hp14 hk914 hsp14 hsr14 hsh14
    clear hk14 sd0 sd1 sd2 sd3
    go_wp2_with fail
    refine (pSpans_any HP14.out).mono ?_
    rw [runs_free]
    rintro e w15 ⟨v15, rfl, hown15, hk15⟩
    have hf15 := HF14.out.keep hk15 (by simp)
    have ho15 := HO14.out.keep hk15 (by simp)
    have hp15 := HP14.out.keep hk15 (by simp) (by simp)
    have hsh15 := HSH14.out.keep hk15 (by simp)
    have hk915 := HK914.out.trans hk15 (by simp)
    have HF15 := hide hf15
    have HO15 := hide ho15
    have HP15 := hide hp15
    have HSH15 := hide hsh15
    have HK915 := hide hk915
    have HOW15 := hide hown15
    clear hf15 ho15 hp15 hsh15 hk915 hown15
    clear hk15
    go_wp2_with fail
    refine (sameSpans_eq HOW15.out.rd HF15.out.rd (by rw [HSN.out]; omega)).mono ?_
    rintro e w16 ⟨rfl, k16, rfl⟩
    go_wp2_with fail
    refine (pFree_any (HP15.out.drewN _)).mono ?_
    rw [HCF.out]
    rintro e w17 ⟨rfl, rfl⟩
    go_wp2_with fail
    refine (pGive_back (HP15.out.drewN k16) _ R ((HO15.out.rd).keep ((Kp.refl [] _).drewN _) (by simp)) (fun x hx => by have := HLT9.out x hx; have := HBO8.out.pool.m.lt; have := HBO8.out.pool.m.wlt; omega) (by rw [HRL.out]; omega) HRN.out HRM.out).mono ?_
    rw [HALL.out]
    rintro e w18 ⟨rfl, hp18, hk18⟩
    have hk918 := HK915.out.trans' (((Kp.refl [pb, wb] _).drewN k16).trans' hk18)
    obtain ⟨se0, se1, se2, se3⟩ := (HSH9.out.keep hk918 (by simp; omega)).cells
    have hkw18 := HKW9.out.trans hk918 (by simp; omega)
    have hfr : ∀ m, Calls Try.prog 15 #[.pointer (some ⟨pb, 0, none⟩)] (w18.drewN m) fun e w' => e = .returned (.int .i64 D) ∧ ∃ k, w' = (w18.drewN m).drewN k := fun m => by
      refine (pFree_any (hp18.drewN m)).mono ?_
      rw [cnt_freeNone, HDD.out]
      rintro e w19 ⟨rfl, rfl⟩
      exact ⟨rfl, 0, rfl⟩
    have HP18 := hide hp18
    have HKW18 := hide hkw18
    have HFR := hide hfr
    clear hp18 hkw18 hfr
    clear hk18 hk918
    go_wp2_with fail
    go_quiet ((go_at_call 15; refine Calls.quiet_of (HFR.out _)))
    go_wp2_with fail
    go_ret
    exact ⟨rfl, HKW18.out.drewN _⟩
  · have HBB := hide hb
    clear hb
    refine (place_any _ _ (by omega) (by omega) HBAD.out.swap _).mono ?_
    rw [HBB.out]
    rintro e w11 ⟨rfl, rfl⟩
    go_wp2_with (first
      | (at_builtin; refine app_int rfl _ _ rfl w9.heap.size v10 (nis A) rfl (HO10.out.keep ((Kp.refl [] _).alloc _) (by simp)) _ (S.pages : Int) _ rfl (blk_new' (by simp) _) (by rw [nis_length]; omega) (by simp; omega) ?_; intro v12 w12 hown12 hgr12 _; have hk912 : Kp [] w9 w12 := (HK910.out.alloc _).grown hgr12 (fun x hx => .inr (HLT10.out x hx).1); have H12 := hide hown12; have HK912 := hide hk912; have HLT12 := hide hown12.lt; have hs912 := hk912.size; clear hown12 hk912 hgr12)
      | (at_builtin; refine app_ints rfl _ _ rfl w9.heap.size v12 (nis A ++ [(S.pages : Int)]) rfl H12.out s2 (nis B) rfl (HS2.out.keep HK912.out (by simp)) (by simp [nis_length]; omega) (by rw [nis_length]; omega) (by omega) ?_; intro v13 w13 hown13 hgr13 _; rw [List.append_assoc, List.singleton_append] at hown13; have hk913 : Kp [] w9 w13 := HK912.out.grown hgr13 (fun x hx => .inr (HLT12.out x hx).1); have hlt13 := hown13.lt; have H13 := hide hown13; have HK913 := hide hk913; have hs913 := hk913.size; clear hown13 hk913 hgr13))
    refine (pGive_bad (HP9.out.keep HK913.out (by simp) (by simp)) v13 _ H13.out.rd (fun x hx => by have := hlt13 x hx; omega) (by simp [nis_length]; omega) 52 (.inl ⟨not_inTo_mid _ _ (by omega), rfl⟩)).mono ?_
    rintro e w14 ⟨rfl, hp14, hk14⟩
    have hk914 : Kp [pb, wb] w9 w14 := (HK913.out.mono (by simp)).trans' hk14
    have hsp14 := HF9.out.keep hk914 (fun x hx => by have := HO8.out.lt x hx; have := HBO6.out.pool.m.lt; have := HBO6.out.pool.m.wlt; simp; omega)
    have hsr14 := HO9.out.keep hk914 (fun x hx => by have := HLT9.out x hx; have := HBO8.out.pool.m.lt; have := HBO8.out.pool.m.wlt; simp; omega)
    have hsh14 := HSH9.out.keep hk914 (by simp; omega)
    have hs914 := hk914.size
    have HP14 := hide hp14
    have HK914 := hide hk914
    have HF14 := hide hsp14
    have HO14 := hide hsr14
    have HSH14 := hide hsh14
    clear hp14 hk914 hsp14 hsr14 hsh14
    clear hk14 sd0 sd1 sd2 sd3
    go_wp2_with fail
    refine (pSpans_any HP14.out).mono ?_
    rw [runs_free]
    rintro e w15 ⟨v15, rfl, hown15, hk15⟩
    have hf15 := HF14.out.keep hk15 (by simp)
    have ho15 := HO14.out.keep hk15 (by simp)
    have hp15 := HP14.out.keep hk15 (by simp) (by simp)
    have hsh15 := HSH14.out.keep hk15 (by simp)
    have hk915 := HK914.out.trans hk15 (by simp)
    have HF15 := hide hf15
    have HO15 := hide ho15
    have HP15 := hide hp15
    have HSH15 := hide hsh15
    have HK915 := hide hk915
    have HOW15 := hide hown15
    clear hf15 ho15 hp15 hsh15 hk915 hown15
    clear hk15
    go_wp2_with fail
    refine (sameSpans_eq HOW15.out.rd HF15.out.rd (by rw [HSN.out]; omega)).mono ?_
    rintro e w16 ⟨rfl, k16, rfl⟩
    go_wp2_with fail
    refine (pFree_any (HP15.out.drewN _)).mono ?_
    rw [HCF.out]
    rintro e w17 ⟨rfl, rfl⟩
    go_wp2_with fail
    refine (pGive_back (HP15.out.drewN k16) _ R ((HO15.out.rd).keep ((Kp.refl [] _).drewN _) (by simp)) (fun x hx => by have := HLT9.out x hx; have := HBO8.out.pool.m.lt; have := HBO8.out.pool.m.wlt; omega) (by rw [HRL.out]; omega) HRN.out HRM.out).mono ?_
    rw [HALL.out]
    rintro e w18 ⟨rfl, hp18, hk18⟩
    have hk918 := HK915.out.trans' (((Kp.refl [pb, wb] _).drewN k16).trans' hk18)
    obtain ⟨se0, se1, se2, se3⟩ := (HSH9.out.keep hk918 (by simp; omega)).cells
    have hkw18 := HKW9.out.trans hk918 (by simp; omega)
    have hfr : ∀ m, Calls Try.prog 15 #[.pointer (some ⟨pb, 0, none⟩)] (w18.drewN m) fun e w' => e = .returned (.int .i64 D) ∧ ∃ k, w' = (w18.drewN m).drewN k := fun m => by
      refine (pFree_any (hp18.drewN m)).mono ?_
      rw [cnt_freeNone, HDD.out]
      rintro e w19 ⟨rfl, rfl⟩
      exact ⟨rfl, 0, rfl⟩
    have HP18 := hide hp18
    have HKW18 := hide hkw18
    have HFR := hide hfr
    clear hp18 hkw18 hfr
    clear hk18 hk918
    go_wp2_with fail
    go_quiet ((go_at_call 15; refine Calls.quiet_of (HFR.out _)))
    go_wp2_with fail
    go_ret
    exact ⟨rfl, HKW18.out.drewN _⟩
  · have HBB := hide hb
    clear hb
    refine (place_any _ _ (by omega) (by omega) HBAD.out.swap _).mono ?_
    rw [HBB.out]
    rintro e w11 ⟨rfl, rfl⟩
    by_cases hz : sn = 0
    · subst hz
      go_wp2_with fail
      have hp10 := HP9.out.keep HK910.out (by simp) (by simp)
      have hf10 := HF9.out.keep HK910.out (by simp)
      have HP10 := hide hp10
      have HF10 := hide hf10
      clear hp10 hf10
      refine (pSpans_any HP10.out).mono ?_
      rw [runs_free]
      rintro e w15 ⟨v15, rfl, hown15, hk15⟩
      have hf15 := HF10.out.keep hk15 (by simp)
      have hkw15 := HKW9.out.trans' (HK910.out.trans' hk15)
      have HF15 := hide hf15
      have HK15 := hide hkw15
      have HOW15 := hide hown15
      clear hf15 hkw15 hown15
      clear hk15
      go_wp2_with fail
      refine (sameSpans_eq HOW15.out.rd HF15.out.rd (by rw [HSN.out]; omega)).mono ?_
      rintro e w16 ⟨rfl, k16, rfl⟩
      go_wp2_with fail
      go_ret
      exact ⟨rfl, HK15.out.drewN _⟩
    · have hz2 : ((sn : Int) == 0) = false := by simpa using hz
      obtain ⟨j1, hj1⟩ : ∃ j1 : Nat, at_ % (sn : Int) = (j1 : Int) := ⟨(at_ % (sn : Int)).toNat, by have := Int.emod_nonneg at_ (show (sn : Int) ≠ 0 by omega); omega⟩
      have hj1b : j1 < sn := by have := Int.emod_lt_of_pos at_ (show (0 : Int) < (sn : Int) by omega); omega
      have hfm := fr_mem (P := freeL S held) (j := j1) (by rw [HSN.out]; exact hj1b)
      have hfp := span_pos (P := freeL S held) (j := j1) (by rw [HSN.out]; exact hj1b)
      obtain ⟨fa', fc', e8, hrd8⟩ := HF9.out.rd
      injection e8 with e81 e82 e83
      subst e81; subst e83
      rcases hrd8 with hnil | ⟨g8, rfl, hrd8⟩
      · have := HSN.out; rw [hnil] at this; simp at this; omega
      have hc8 := HK910.out.cell (hrd8 j1 (by rw [HSN.out]; exact hj1b)).1 (by simp)
      generalize hfx : fr (spansOf (freeL S held)) j1 = x at hfm hfp hc8
      obtain ⟨x, rfl⟩ := Int.eq_ofNat_of_zero_le hfp.1
      have hon : freeOf S held x = true := mem_freeL.1 hfm
      have hxr := freeOf_true.1 hon
      obtain ⟨hxr1, hxr2, hxr3⟩ := hxr
      have hj2 : (0 : Int) ≤ (j1 : Int) := by omega
      have hj3 : (j1 : Int) < (sn : Int) := by omega
      have HON := hide hon
      have HJ1 := hide hj1
      clear hj1
      clear hrd8 hfx hfm hfp e82 hz hxr3 hon
      go_wp2_with fail
      refine (place_any _ _ (by omega) (by omega) HAT.out.swap _).mono ?_
      rw [HJ1.out]
      rintro e w11 ⟨rfl, rfl⟩
      go_wp2_with (first
        | (at_builtin; refine app_int rfl _ _ rfl w9.heap.size v10 (nis A) rfl (HO10.out.keep ((Kp.refl [] _).alloc _) (by simp)) _ (x : Int) _ rfl (blk_new' (by simp) _) (by rw [nis_length]; omega) (by simp; omega) ?_; intro v12 w12 hown12 hgr12 _; have hk912 : Kp [] w9 w12 := (HK910.out.alloc _).grown hgr12 (fun x hx => .inr (HLT10.out x hx).1); have H12 := hide hown12; have HK912 := hide hk912; have HLT12 := hide hown12.lt; have hs912 := hk912.size; clear hown12 hk912 hgr12)
        | (at_builtin; refine app_ints rfl _ _ rfl w9.heap.size v12 (nis A ++ [(x : Int)]) rfl H12.out s2 (nis B) rfl (HS2.out.keep HK912.out (by simp)) (by simp [nis_length]; omega) (by rw [nis_length]; omega) (by omega) ?_; intro v13 w13 hown13 hgr13 _; rw [List.append_assoc, List.singleton_append] at hown13; have hk913 : Kp [] w9 w13 := HK912.out.grown hgr13 (fun x hx => .inr (HLT12.out x hx).1); have hlt13 := hown13.lt; have H13 := hide hown13; have HK913 := hide hk913; have hs913 := hk913.size; clear hown13 hk913 hgr13))
      refine (pGive_bad (HP9.out.keep HK913.out (by simp) (by simp)) v13 _ H13.out.rd (fun x hx => by have := hlt13 x hx; omega) (by simp [nis_length]; omega) 51 (.inr ⟨inTo_iff.2 (fun y hy => mid_in HRM.out HAB.out ⟨hxr1, hxr2⟩ hy), tw_mid_on _ _ HON.out, rfl⟩)).mono ?_
      rintro e w14 ⟨rfl, hp14, hk14⟩
      have hk914 : Kp [pb, wb] w9 w14 := (HK913.out.mono (by simp)).trans' hk14
      have hsp14 := HF9.out.keep hk914 (fun x hx => by have := HO8.out.lt x hx; have := HBO6.out.pool.m.lt; have := HBO6.out.pool.m.wlt; simp; omega)
      have hsr14 := HO9.out.keep hk914 (fun x hx => by have := HLT9.out x hx; have := HBO8.out.pool.m.lt; have := HBO8.out.pool.m.wlt; simp; omega)
      have hsh14 := HSH9.out.keep hk914 (by simp; omega)
      have hs914 := hk914.size
      have HP14 := hide hp14
      have HK914 := hide hk914
      have HF14 := hide hsp14
      have HO14 := hide hsr14
      have HSH14 := hide hsh14
      clear hp14 hk914 hsp14 hsr14 hsh14
      clear hk14 sd0 sd1 sd2 sd3
      go_wp2_with fail
      refine (pSpans_any HP14.out).mono ?_
      rw [runs_free]
      rintro e w15 ⟨v15, rfl, hown15, hk15⟩
      have hf15 := HF14.out.keep hk15 (by simp)
      have ho15 := HO14.out.keep hk15 (by simp)
      have hp15 := HP14.out.keep hk15 (by simp) (by simp)
      have hsh15 := HSH14.out.keep hk15 (by simp)
      have hk915 := HK914.out.trans hk15 (by simp)
      have HF15 := hide hf15
      have HO15 := hide ho15
      have HP15 := hide hp15
      have HSH15 := hide hsh15
      have HK915 := hide hk915
      have HOW15 := hide hown15
      clear hf15 ho15 hp15 hsh15 hk915 hown15
      clear hk15
      go_wp2_with fail
      refine (sameSpans_eq HOW15.out.rd HF15.out.rd (by rw [HSN.out]; omega)).mono ?_
      rintro e w16 ⟨rfl, k16, rfl⟩
      go_wp2_with fail
      refine (pFree_any (HP15.out.drewN _)).mono ?_
      rw [HCF.out]
      rintro e w17 ⟨rfl, rfl⟩
      go_wp2_with fail
      refine (pGive_back (HP15.out.drewN k16) _ R ((HO15.out.rd).keep ((Kp.refl [] _).drewN _) (by simp)) (fun x hx => by have := HLT9.out x hx; have := HBO8.out.pool.m.lt; have := HBO8.out.pool.m.wlt; omega) (by rw [HRL.out]; omega) HRN.out HRM.out).mono ?_
      rw [HALL.out]
      rintro e w18 ⟨rfl, hp18, hk18⟩
      have hk918 := HK915.out.trans' (((Kp.refl [pb, wb] _).drewN k16).trans' hk18)
      obtain ⟨se0, se1, se2, se3⟩ := (HSH9.out.keep hk918 (by simp; omega)).cells
      have hkw18 := HKW9.out.trans hk918 (by simp; omega)
      have hfr : ∀ m, Calls Try.prog 15 #[.pointer (some ⟨pb, 0, none⟩)] (w18.drewN m) fun e w' => e = .returned (.int .i64 D) ∧ ∃ k, w' = (w18.drewN m).drewN k := fun m => by
        refine (pFree_any (hp18.drewN m)).mono ?_
        rw [cnt_freeNone, HDD.out]
        rintro e w19 ⟨rfl, rfl⟩
        exact ⟨rfl, 0, rfl⟩
      have HP18 := hide hp18
      have HKW18 := hide hkw18
      have HFR := hide hfr
      clear hp18 hkw18 hfr
      clear hk18 hk918
      go_wp2_with fail
      go_quiet ((go_at_call 15; refine Calls.quiet_of (HFR.out _)))
      go_wp2_with fail
      go_ret
      exact ⟨rfl, HKW18.out.drewN _⟩
  · have HBB := hide hb
    clear hb
    refine (place_any _ _ (by omega) (by omega) HBAD.out.swap _).mono ?_
    rw [HBB.out]
    rintro e w11 ⟨rfl, rfl⟩
    by_cases hz : rn = 0
    · subst hz
      go_wp2_with fail
      have hp10 := HP9.out.keep HK910.out (by simp) (by simp)
      have hf10 := HF9.out.keep HK910.out (by simp)
      have HP10 := hide hp10
      have HF10 := hide hf10
      clear hp10 hf10
      refine (pSpans_any HP10.out).mono ?_
      rw [runs_free]
      rintro e w15 ⟨v15, rfl, hown15, hk15⟩
      have hf15 := HF10.out.keep hk15 (by simp)
      have hkw15 := HKW9.out.trans' (HK910.out.trans' hk15)
      have HF15 := hide hf15
      have HK15 := hide hkw15
      have HOW15 := hide hown15
      clear hf15 hkw15 hown15
      clear hk15
      go_wp2_with fail
      refine (sameSpans_eq HOW15.out.rd HF15.out.rd (by rw [HSN.out]; omega)).mono ?_
      rintro e w16 ⟨rfl, k16, rfl⟩
      go_wp2_with fail
      go_ret
      exact ⟨rfl, HK15.out.drewN _⟩
    · have hz2 : ((rn : Int) == 0) = false := by simpa using hz
      obtain ⟨j1, hj1⟩ : ∃ j1 : Nat, at_ % (rn : Int) = (j1 : Int) := ⟨(at_ % (rn : Int)).toNat, by have := Int.emod_nonneg at_ (show (rn : Int) ≠ 0 by omega); omega⟩
      have hj1b : j1 < rn := by have := Int.emod_lt_of_pos at_ (show (0 : Int) < (rn : Int) by omega); omega
      have hjR : j1 < R.length := by rw [HRL.out]; exact hj1b
      have hxm : R[j1] ∈ R := List.getElem_mem hjR
      obtain ⟨va', vc', e9, hrd9⟩ := HO9.out.rd
      injection e9 with e91 e92 e93
      subst e91; subst e93
      rcases hrd9 with hnil | ⟨g9, rfl, hrd9⟩
      · have h1 := HRL.out; have h0 : R.length = 0 := by { have := congrArg List.length hnil; rw [nis_length] at this; exact this }; omega
      have hc9 := HK910.out.cell (hrd9 j1 (by rw [nis_length]; exact hjR)) (by simp)
      rw [gi_nis hjR] at hc9
      generalize R[j1] = x at hxm hc9
      have hxr := HRM.out x hxm
      have hxAB : (x : Int) ∈ nis A ++ nis B := by rw [← nis_append, ← HAB.out]; exact List.mem_map.2 ⟨x, hxm, rfl⟩
      have hj2 : (0 : Int) ≤ (j1 : Int) := by omega
      have hj3 : (j1 : Int) < (rn : Int) := by omega
      obtain ⟨hxr1, hxr2, hxr3⟩ := hxr
      have HJ1 := hide hj1
      have HXAB := hide hxAB
      clear hj1 hxAB
      clear hrd9 hxm e92 hz hxr3 hjR
      go_wp2_with fail
      refine (place_any _ _ (by omega) (by omega) HAT.out.swap _).mono ?_
      rw [HJ1.out]
      rintro e w11 ⟨rfl, rfl⟩
      go_wp2_with (first
        | (at_builtin; refine app_int rfl _ _ rfl w9.heap.size v10 (nis A) rfl (HO10.out.keep ((Kp.refl [] _).alloc _) (by simp)) _ (x : Int) _ rfl (blk_new' (by simp) _) (by rw [nis_length]; omega) (by simp; omega) ?_; intro v12 w12 hown12 hgr12 _; have hk912 : Kp [] w9 w12 := (HK910.out.alloc _).grown hgr12 (fun x hx => .inr (HLT10.out x hx).1); have H12 := hide hown12; have HK912 := hide hk912; have HLT12 := hide hown12.lt; have hs912 := hk912.size; clear hown12 hk912 hgr12)
        | (at_builtin; refine app_ints rfl _ _ rfl w9.heap.size v12 (nis A ++ [(x : Int)]) rfl H12.out s2 (nis B) rfl (HS2.out.keep HK912.out (by simp)) (by simp [nis_length]; omega) (by rw [nis_length]; omega) (by omega) ?_; intro v13 w13 hown13 hgr13 _; rw [List.append_assoc, List.singleton_append] at hown13; have hk913 : Kp [] w9 w13 := HK912.out.grown hgr13 (fun x hx => .inr (HLT12.out x hx).1); have hlt13 := hown13.lt; have H13 := hide hown13; have HK913 := hide hk913; have hs913 := hk913.size; clear hown13 hk913 hgr13))
      refine (pGive_bad (HP9.out.keep HK913.out (by simp) (by simp)) v13 _ H13.out.rd (fun x hx => by have := hlt13 x hx; omega) (by simp [nis_length]; omega) 51 (.inr ⟨inTo_iff.2 (fun y hy => mid_in HRM.out HAB.out ⟨hxr1, hxr2⟩ hy), tw_mid_dup _ _ HXAB.out, rfl⟩)).mono ?_
      rintro e w14 ⟨rfl, hp14, hk14⟩
      have hk914 : Kp [pb, wb] w9 w14 := (HK913.out.mono (by simp)).trans' hk14
      have hsp14 := HF9.out.keep hk914 (fun x hx => by have := HO8.out.lt x hx; have := HBO6.out.pool.m.lt; have := HBO6.out.pool.m.wlt; simp; omega)
      have hsr14 := HO9.out.keep hk914 (fun x hx => by have := HLT9.out x hx; have := HBO8.out.pool.m.lt; have := HBO8.out.pool.m.wlt; simp; omega)
      have hsh14 := HSH9.out.keep hk914 (by simp; omega)
      have hs914 := hk914.size
      have HP14 := hide hp14
      have HK914 := hide hk914
      have HF14 := hide hsp14
      have HO14 := hide hsr14
      have HSH14 := hide hsh14
      clear hp14 hk914 hsp14 hsr14 hsh14
      clear hk14 sd0 sd1 sd2 sd3
      go_wp2_with fail
      refine (pSpans_any HP14.out).mono ?_
      rw [runs_free]
      rintro e w15 ⟨v15, rfl, hown15, hk15⟩
      have hf15 := HF14.out.keep hk15 (by simp)
      have ho15 := HO14.out.keep hk15 (by simp)
      have hp15 := HP14.out.keep hk15 (by simp) (by simp)
      have hsh15 := HSH14.out.keep hk15 (by simp)
      have hk915 := HK914.out.trans hk15 (by simp)
      have HF15 := hide hf15
      have HO15 := hide ho15
      have HP15 := hide hp15
      have HSH15 := hide hsh15
      have HK915 := hide hk915
      have HOW15 := hide hown15
      clear hf15 ho15 hp15 hsh15 hk915 hown15
      clear hk15
      go_wp2_with fail
      refine (sameSpans_eq HOW15.out.rd HF15.out.rd (by rw [HSN.out]; omega)).mono ?_
      rintro e w16 ⟨rfl, k16, rfl⟩
      go_wp2_with fail
      refine (pFree_any (HP15.out.drewN _)).mono ?_
      rw [HCF.out]
      rintro e w17 ⟨rfl, rfl⟩
      go_wp2_with fail
      refine (pGive_back (HP15.out.drewN k16) _ R ((HO15.out.rd).keep ((Kp.refl [] _).drewN _) (by simp)) (fun x hx => by have := HLT9.out x hx; have := HBO8.out.pool.m.lt; have := HBO8.out.pool.m.wlt; omega) (by rw [HRL.out]; omega) HRN.out HRM.out).mono ?_
      rw [HALL.out]
      rintro e w18 ⟨rfl, hp18, hk18⟩
      have hk918 := HK915.out.trans' (((Kp.refl [pb, wb] _).drewN k16).trans' hk18)
      obtain ⟨se0, se1, se2, se3⟩ := (HSH9.out.keep hk918 (by simp; omega)).cells
      have hkw18 := HKW9.out.trans hk918 (by simp; omega)
      have hfr : ∀ m, Calls Try.prog 15 #[.pointer (some ⟨pb, 0, none⟩)] (w18.drewN m) fun e w' => e = .returned (.int .i64 D) ∧ ∃ k, w' = (w18.drewN m).drewN k := fun m => by
        refine (pFree_any (hp18.drewN m)).mono ?_
        rw [cnt_freeNone, HDD.out]
        rintro e w19 ⟨rfl, rfl⟩
        exact ⟨rfl, 0, rfl⟩
      have HP18 := hide hp18
      have HKW18 := hide hkw18
      have HFR := hide hfr
      clear hp18 hkw18 hfr
      clear hk18 hk918
      go_wp2_with fail
      go_quiet ((go_at_call 15; refine Calls.quiet_of (HFR.out _)))
      go_wp2_with fail
      go_ret
      exact ⟨rfl, HKW18.out.drewN _⟩
end Go.Proofs.Ytoghdhjeopcjkaa
