/- ExtentsApart: the walk: whatever the input, it answers true. Conditions: numbers of an int; the moves can be read. -/
import Derived.Test.YtoghdhjeopcjkaaApartH
namespace Go.Proofs.Ytoghdhjeopcjkaa
open Go.RowKit Go.Deep

theorem Both.keepq {T : Nat → Prop} {w w' : World} {b wb cap bb hb : Nat} {S : Sh} {held : Nat → Bool} (h : Both w b wb cap bb hb S held) (k : Kq T w w') (h1 : ¬ T b) (h2 : ¬ T wb) (h3 : ¬ T bb) (h4 : ¬ T hb) : Both w' b wb cap bb hb S held :=
  ⟨h.pool.keepq k h1 h2, h.book.keepq k h3 h4, h.area, h.ne1, h.ne2, h.ne3, h.ne4⟩
theorem Kp.q4 {w w' : World} {a b c d : Nat} (h : Kp [a, b, c, d] w w') : Kq (fun x => x = a ∨ x = b ∨ x = c ∨ x = d) w w' := h.q.mono (by simp)
set_option maxHeartbeats 4000000 in
set_option maxRecDepth 100000 in
theorem apart_walk (p c : Int) (v vm : Value) (l lm : List Mv) (am : Option Addr) (cm : Nat) (w : World) (hp : I64 p) (hc : I64 c) (hv : RdM w v l) (hvl : ∀ x, v.ownBlock = some x → x < w.heap.size) (hlen : l.length ≤ 9223372036854775807)
    (hvm : RdM w vm lm) (hvml : ∀ x, vm.ownBlock = some x → x < w.heap.size) (hlm : lm.length ≤ 9223372036854775807) (hvme : vm = .slice am lm.length cm) (hcm : lm.length ≤ cm) :
    Calls Try.prog 11 #[.int .i64 p, .int .i64 c, v, vm] w fun e w' => e = .returned (.bool true) ∧ Kp [] w w' := by
  have hdI : I64 (p.tdiv 3) := tdiv_i64 hp 3 (by omega)
  obtain ⟨S, hS⟩ : ∃ S, S = shp p (p.tdiv 3) c := ⟨_, rfl⟩
  have ok : S.Ok := by rw [hS]; exact shp_ok _ _ _
  have o1 := ok.p2; have o2 := ok.c1; have o3 := ok.c2; have o4 := ok.d2
  obtain ⟨hp1, hp2⟩ := hp
  have hp : I64 p := ⟨hp1, hp2⟩
  subst hvme
  have HP := hide hp
  have HC := hide hc
  have HS := hide hS
  have OK := hide ok
  have HV := hide hv
  have HVL := hide hvl
  have HD := hide hdI
  have HVM := hide hvm
  have HVML := hide hvml
  clear hp hc hS ok hv hvl hdI hvm hvml
  go_enter Try.func11, Try.ntmps11
  go_wp2_with fail
  refine (shape_any _ _ _ HP.out HD.out HC.out _).mono ?_
  rw [← HS.out]
  rintro e w1 ⟨rfl, hk1⟩
  have hsh1 : ShAt (w1.alloc (.cells #[.int .i64 S.pages, .int .i64 S.inodes, .int .i64 S.cores, .int .i64 S.data] 23)) w1.heap.size S := blk_new _ _
  have hc1 := hsh1.cells
  have hkw1 : Kp [] w (w1.alloc (.cells #[.int .i64 S.pages, .int .i64 S.inodes, .int .i64 S.cores, .int .i64 S.data] 23)) := hk1.alloc _
  have HSH1 := hide hsh1
  have HKW1 := hide hkw1
  clear hsh1 hkw1
  clear hk1
  go_wp2_with fail
  go_region_held3 (fun w' => w'.cell? ⟨w1.heap.size, 0, none⟩ = some (.int .i64 S.pages) ∧ w'.cell? ⟨w1.heap.size, 1, none⟩ = some (.int .i64 S.inodes) ∧ w'.cell? ⟨w1.heap.size, 2, none⟩ = some (.int .i64 S.cores) ∧ w'.cell? ⟨w1.heap.size, 3, none⟩ = some (.int .i64 S.data))
    (first | exact z4 | exact z3 | exact hc1)
    (first
      | (go_at_call 19; refine (whole_any _ _ _ _ (by omega) (by omega) (by omega) _).mono ?_; rintro e w3 ⟨v3, rfl, hown3, hk3⟩; have hsh3 := HSH1.out.keep ((Kp.refl [] _).drew.trans' hk3) (by simp); have z3 := hsh3.cells; have HO3 := hide hown3; have HSH3 := hide hsh3; have HK3 := hide hk3; clear hown3 hsh3 hk3)
      | (go_at_call 14; refine (newPool_whole OK.out HO3.out).mono ?_; rintro e w4 ⟨pb, wb, cap, rfl, hpb, hwb, hpool, hk4⟩; have hsh4 := HSH3.out.keep hk4 (by simp); have z4 := hsh4.cells))
  have hk04 : Kp [] w w4 := HKW1.out.trans' ((Kp.refl [] _).drew.trans' (HK3.out.trans' hk4))
  have hs34 := (HKW1.out.trans' ((Kp.refl [] _).drew.trans' HK3.out)).size
  have hpl := hpool.m.lt
  have hwl := hpool.m.wlt
  have hmk := run_make_row' (P := Try.prog) 40 4 (.bool false) 1 Try.underlying40 Try.info_bool rfl .i64 .i64 S.pages (by omega) (by omega)
  obtain ⟨z40, z41, z42, z43⟩ := z4
  have hsl4 := blk_lt hsh4
  have HPOOL := hide hpool
  have HK04 := hide hk04
  have HSH4 := hide hsh4
  clear hpool hk04 hsh4
  clear hk4 z3 hc1
  go_wp2_with fail
  go_region_held3 (fun w' => w'.cell? ⟨w1.heap.size, 0, none⟩ = some (.int .i64 S.pages) ∧ w'.cell? ⟨w1.heap.size, 1, none⟩ = some (.int .i64 S.inodes) ∧ w'.cell? ⟨w1.heap.size, 2, none⟩ = some (.int .i64 S.cores) ∧ w'.cell? ⟨w1.heap.size, 3, none⟩ = some (.int .i64 S.data))
    (first | exact ⟨z40, z41, z42, z43⟩ | exact blk4 (blk_alloc HSH4.out _) | exact blk4 (blk_alloc (blk_alloc HSH4.out _) _))
    (fail)
  clear hmk
  have hb1 : ((w4.alloc (.cells (madeCells #[.bool false] S.pages) 4)).alloc (.cells #[.int .i64 S.pages, .int .i64 S.inodes, .int .i64 S.cores, .int .i64 S.data, .slice (some ⟨w4.heap.size, 0, none⟩) S.pages S.pages, .int .i64 0] 42)).heap[w4.heap.size + 1]? = some (.cells #[.int .i64 S.pages, .int .i64 S.inodes, .int .i64 S.cores, .int .i64 S.data, .slice (some ⟨w4.heap.size, 0, none⟩) S.pages S.pages, .int .i64 0] 42 (0, 0)) := blk_new' (by simp) _
  have hkb : Kp [] w4 ((w4.alloc (.cells (madeCells #[.bool false] S.pages) 4)).alloc (.cells #[.int .i64 S.pages, .int .i64 S.inodes, .int .i64 S.cores, .int .i64 S.data, .slice (some ⟨w4.heap.size, 0, none⟩) S.pages S.pages, .int .i64 0] 42)) := ((Kp.refl [] w4).alloc _).alloc _
  have hbo : Both ((w4.alloc (.cells (madeCells #[.bool false] S.pages) 4)).alloc (.cells #[.int .i64 S.pages, .int .i64 S.inodes, .int .i64 S.cores, .int .i64 S.data, .slice (some ⟨w4.heap.size, 0, none⟩) S.pages S.pages, .int .i64 0] 42)) pb wb cap (w4.heap.size + 1) w4.heap.size S (fun _ => false) :=
    ⟨HPOOL.out.keep hkb (by simp) (by simp), book_new hb1 (blk_alloc (blk_new _ _) _) (by omega), fun i hi => by simp at hi, by omega, by omega, by omega, by omega⟩
  generalize hW : (w4.alloc (.cells (madeCells #[.bool false] S.pages) 4)).alloc (.cells #[.int .i64 S.pages, .int .i64 S.inodes, .int .i64 S.cores, .int .i64 S.data, .slice (some ⟨w4.heap.size, 0, none⟩) S.pages S.pages, .int .i64 0] 42) = w5 at hbo hkb ⊢
  have hk05 := HK04.out.trans' hkb
  have hsh5 := HSH4.out.keep hkb (by simp)
  have hs5 := hkb.size
  have hs04 := HK04.out.size
  have HBO := hide hbo
  have HK05 := hide hk05
  have HSH5 := hide hsh5
  clear hbo hk05 hsh5
  clear hkb hb1 hW z40 z41 z42 z43
  have hs13 := blk_lt HSH3.out
  have hs05 := HK05.out.size
  go_wp2_with fail
  refine (played_any (HBO.out.keep0 (by first | exact (Kp.refl _ _).drewN _ | exact (Kp.refl _ _).drew)) v l (HV.out.keep (HK05.out.trans' (by first | exact (Kp.refl _ _).drewN _ | exact (Kp.refl _ _).drew)) (by simp)) (fun x hx => by have := HVL.out x hx; omega) hlen).mono ?_
  rintro e y0 ⟨rfl, held, hbo6, hk6⟩
  have hk56 : Kp [pb, wb, w4.heap.size + 1, w4.heap.size] w5 y0 := by first | exact ((Kp.refl _ _).drewN _).trans' hk6 | exact ((Kp.refl _ _).drew).trans' hk6 | exact hk6
  have hs50 := hk56.size
  have hkw0 : Kp [] w y0 := HK05.out.trans hk56 (by simp; omega)
  have hsh0 := HSH5.out.keep hk56 (by simp; omega)
  have hw0 := hkw0.size
  have hbb0 := hbo6.book.lt
  have hbh0 := hbo6.book.hlt
  have hpb0 := hbo6.pool.m.lt
  have hpw0 := hbo6.pool.m.wlt
  have n1' := hbo6.ne1; have n2' := hbo6.ne2; have n3' := hbo6.ne3; have n4' := hbo6.ne4
  have hwb0 : pb ≠ wb := hbo6.pool.m.ne
  obtain ⟨many, hmany⟩ : ∃ many, cnt held S.pages = many := ⟨_, rfl⟩
  have hmb : many ≤ 1024 := by have := cnt_le held S.pages; omega
  have hln : (spansOf (freeL S held)).length ≤ 1024 := by
    have h1 := spansOf_length (freeL S held)
    have h2 := cnt_free hbo6.area
    rcases freeL_length (S := S) (held := held) with h | h
    · omega
    · omega
  have HB0 := hide hbo6
  have HKW0 := hide hkw0
  have HSH0 := hide hsh0
  have HMANY := hide hmany
  clear hbo6 hkw0 hsh0 hmany
  clear hk6 hk56
  go_wp2_with fail
  refine (pCopy_any HB0.out.pool).mono ?_
  rintro e y1 ⟨qb, qw, qc, rfl, hqb, hqw, hq1, hk1⟩
  have hql := hq1.m.lt
  have hqwl := hq1.m.wlt
  have hqne := hq1.m.ne
  have hs1 := hk1.size
  have HS0 := hide hk1.q0
  clear hk1
  have hbq1 : Both y1 qb qw qc (w4.heap.size + 1) w4.heap.size S held := ⟨hq1, (HB0.out.keepq HS0.out (fun hS => by first | exact False.elim hS | omega | (simp only [false_or, or_false, or_self] at hS <;> omega)) (fun hS => by first | exact False.elim hS | omega | (simp only [false_or, or_false, or_self] at hS <;> omega)) (fun hS => by first | exact False.elim hS | omega | (simp only [false_or, or_false, or_self] at hS <;> omega)) (fun hS => by first | exact False.elim hS | omega | (simp only [false_or, or_false, or_self] at hS <;> omega))).book, HB0.out.area, by omega, by omega, by omega, by omega⟩
  have HQ1 := hide hq1
  have HBQ1 := hide hbq1
  clear hq1 hbq1
  go_wp2_with fail
  refine (agrees_ok HBQ1.out).mono ?_
  rintro e y2 ⟨rfl, hk2⟩
  have hs2 := hk2.size
  have HS1 := hide hk2.q0
  clear hk2
  go_wp2_with fail
  refine (pSpans_any (HB0.out.keepq (HS0.out.trans2 HS1.out) (fun hS => by first | exact False.elim hS | omega | (simp only [false_or, or_false, or_self] at hS <;> omega)) (fun hS => by first | exact False.elim hS | omega | (simp only [false_or, or_false, or_self] at hS <;> omega)) (fun hS => by first | exact False.elim hS | omega | (simp only [false_or, or_false, or_self] at hS <;> omega)) (fun hS => by first | exact False.elim hS | omega | (simp only [false_or, or_false, or_self] at hS <;> omega))).pool).mono ?_
  rw [runs_free]
  rintro e y3 ⟨v3, rfl, ho3, hk3⟩
  have hs3 := hk3.size
  have HS2 := hide hk3.q0
  clear hk3
  have HO3 := hide ho3
  clear ho3
  go_wp2_with fail
  refine (copySpans_any HO3.out.src (by omega)).mono ?_
  rintro e y4 ⟨v4, rfl, ho4, hk4⟩
  have hlt4 := ho4.lt
  have hs4 := hk4.size
  have HS3 := hide hk4.q0
  clear hk4
  have HO4 := hide ho4
  have HLT4 := hide hlt4
  clear ho4 hlt4
  have hmk := run_make_row' (P := Try.prog) 40 4 (.bool false) 1 Try.underlying40 Try.info_bool rfl .i64 .i64 S.pages (by omega) (by omega)
  have hbo4 := (HB0.out.keepq (HS0.out.trans2 (HS1.out.trans2 (HS2.out.trans2 HS3.out))) (fun hS => by first | exact False.elim hS | omega | (simp only [false_or, or_false, or_self] at hS <;> omega)) (fun hS => by first | exact False.elim hS | omega | (simp only [false_or, or_false, or_self] at hS <;> omega)) (fun hS => by first | exact False.elim hS | omega | (simp only [false_or, or_false, or_self] at hS <;> omega)) (fun hS => by first | exact False.elim hS | omega | (simp only [false_or, or_false, or_self] at hS <;> omega)))
  obtain ⟨s0, s1, s2, s3⟩ := (HSH0.out.keepq (HS0.out.trans2 (HS1.out.trans2 (HS2.out.trans2 HS3.out))) (fun hS => by first | exact False.elim hS | omega | (simp only [false_or, or_false, or_self] at hS <;> omega))).cells
  obtain ⟨t0, t2, t3, t4, t5⟩ := hbo4.book.cells
  have t5 : y4.cell? ⟨w4.heap.size + 1, 5, none⟩ = some (.int .i64 many) := HMANY.out ▸ t5
  have hsh4 := HSH0.out.keepq (HS0.out.trans2 (HS1.out.trans2 (HS2.out.trans2 HS3.out))) (fun hS => by first | exact False.elim hS | omega | (simp only [false_or, or_false, or_self] at hS <;> omega))
  have HBO4 := hide hbo4
  have HSH4 := hide hsh4
  clear hbo4 hsh4
  clear t0 t2 t3 t4
  go_wp2_with fail
  go_region_held3 (fun w' => w'.cell? ⟨w1.heap.size, 0, none⟩ = some (.int .i64 S.pages) ∧ w'.cell? ⟨w1.heap.size, 1, none⟩ = some (.int .i64 S.inodes) ∧ w'.cell? ⟨w1.heap.size, 2, none⟩ = some (.int .i64 S.cores) ∧ w'.cell? ⟨w1.heap.size, 3, none⟩ = some (.int .i64 S.data) ∧ w'.cell? ⟨w4.heap.size + 1, 5, none⟩ = some (.int .i64 many))
    (first | exact ⟨s0, s1, s2, s3, t5⟩ | exact ⟨(alk _ _).drew.cell s0 (by simp), (alk _ _).drew.cell s1 (by simp), (alk _ _).drew.cell s2 (by simp), (alk _ _).drew.cell s3 (by simp), (alk _ _).drew.cell t5 (by simp)⟩ | exact ⟨(alk2 _ _ _).cell s0 (by simp), (alk2 _ _ _).cell s1 (by simp), (alk2 _ _ _).cell s2 (by simp), (alk2 _ _ _).cell s3 (by simp), (alk2 _ _ _).cell t5 (by simp)⟩)
    (fail)
  clear hmk
  have hb5 : ((y4.alloc (.cells (madeCells #[.bool false] S.pages) 4)).alloc (.cells #[.int .i64 S.pages, .int .i64 S.inodes, .int .i64 S.cores, .int .i64 S.data, .slice (some ⟨y4.heap.size, 0, none⟩) S.pages S.pages, .int .i64 many] 42)).heap[y4.heap.size + 1]? = some (.cells #[.int .i64 S.pages, .int .i64 S.inodes, .int .i64 S.cores, .int .i64 S.data, .slice (some ⟨y4.heap.size, 0, none⟩) S.pages S.pages, .int .i64 many] 42 (0, 0)) := blk_new' (by simp) _
  have hr5 : ((y4.alloc (.cells (madeCells #[.bool false] S.pages) 4)).alloc (.cells #[.int .i64 S.pages, .int .i64 S.inodes, .int .i64 S.cores, .int .i64 S.data, .slice (some ⟨y4.heap.size, 0, none⟩) S.pages S.pages, .int .i64 many] 42)).heap[y4.heap.size]? = some (.cells (madeCells #[.bool false] S.pages) 4 (0, 0)) := blk_alloc (blk_new _ _) _
  have hk5 : Kp [] y4 ((y4.alloc (.cells (madeCells #[.bool false] S.pages) 4)).alloc (.cells #[.int .i64 S.pages, .int .i64 S.inodes, .int .i64 S.cores, .int .i64 S.data, .slice (some ⟨y4.heap.size, 0, none⟩) S.pages S.pages, .int .i64 many] 42)) := alk2 _ _ _
  generalize ((y4.alloc (.cells (madeCells #[.bool false] S.pages) 4)).alloc (.cells #[.int .i64 S.pages, .int .i64 S.inodes, .int .i64 S.cores, .int .i64 S.data, .slice (some ⟨y4.heap.size, 0, none⟩) S.pages S.pages, .int .i64 many] 42)) = y5 at hb5 hr5 hk5 ⊢
  have hbs5 := blk_lt hb5
  have hs5 := hk5.size
  have HS4 := hide hk5.q0
  clear hk5
  have HB5 := hide hb5
  have HR5 := hide hr5
  clear hb5 hr5
  clear s0 s1 s2 s3 t5
  have hbo5 := (HB0.out.keepq (HS0.out.trans2 (HS1.out.trans2 (HS2.out.trans2 (HS3.out.trans2 HS4.out)))) (fun hS => by first | exact False.elim hS | omega | (simp only [false_or, or_false, or_self] at hS <;> omega)) (fun hS => by first | exact False.elim hS | omega | (simp only [false_or, or_false, or_self] at hS <;> omega)) (fun hS => by first | exact False.elim hS | omega | (simp only [false_or, or_false, or_self] at hS <;> omega)) (fun hS => by first | exact False.elim hS | omega | (simp only [false_or, or_false, or_self] at hS <;> omega)))
  obtain ⟨t0, t2, t3, t4, t5⟩ := hbo5.book.cells
  obtain ⟨u0, u2, u3, u4, u5⟩ := cells6 HB5.out
  have HBO5 := hide hbo5
  clear hbo5
  clear t0 t2 t3 t5 u0 u2 u3 u5
  go_wp2_with fail
  go_region_held3 (fun w' => w'.cell? ⟨w4.heap.size + 1, 4, none⟩ = some (.slice (some ⟨w4.heap.size, 0, none⟩) S.pages S.pages) ∧ w'.cell? ⟨y4.heap.size + 1, 4, none⟩ = some (.slice (some ⟨y4.heap.size, 0, none⟩) S.pages S.pages))
    (first | exact ⟨t4, u4⟩ | exact ⟨x4, x5⟩)
    ((refine step_copy_bools rfl (.tmp 74) (.tmp 78) rfl S.pages y4.heap.size (madeCells #[.bool false] S.pages) (by simp [Act.eval, Act.put]) w4.heap.size (by simp [Act.eval, Act.put]) HR5.out (by simp [madeCells]) held (fun j hj => HBO5.out.book.mark hj) ?_; intro y6 mm hy6 hk6; have x4 := hk6.cell (a := ⟨w4.heap.size + 1, 4, none⟩) t4 (by simp; omega); have x5 := hk6.cell (a := ⟨y4.heap.size + 1, 4, none⟩) u4 (by simp)))
  have hk6 : Kp [y4.heap.size] y5 y6 := by first | exact hk6 | exact (((Kp.refl _ _).drew).drew).trans' hk6 | exact ((Kp.refl _ _).drew).trans' hk6
  have hs6 := hk6.size
  have hbc6 : BookAt y6 (y4.heap.size + 1) y4.heap.size S S.pages held many := ⟨hk6.blk HB5.out (by simp), hy6, by omega⟩
  have HS5 := hide ((hk6.q.mono (by simp) : Kq (fun x => x = y4.heap.size) y5 y6))
  have hbq6 : Both y6 qb qw qc (y4.heap.size + 1) y4.heap.size S held := ⟨(HQ1.out.keepq (HS1.out.trans2 (HS2.out.trans2 (HS3.out.trans2 (HS4.out.trans2 HS5.out)))) (fun hS => by first | exact False.elim hS | omega | (simp only [false_or, or_false, or_self] at hS <;> omega)) (fun hS => by first | exact False.elim hS | omega | (simp only [false_or, or_false, or_self] at hS <;> omega))), by rw [HMANY.out]; exact hbc6, HB0.out.area, by omega, by omega, by omega, by omega⟩
  have HBQ6 := hide hbq6
  clear hbq6
  clear hk6 hy6 hbc6 x4 x5 t4 u4
  go_wp2_with fail
  have hkw6 : Kp [] w y6 := (HKW0.out.trans2q (HS0.out.trans2 (HS1.out.trans2 (HS2.out.trans2 (HS3.out.trans2 (HS4.out.trans2 HS5.out)))))).drop (fun x hS => by first | exact False.elim hS | omega | (simp only [false_or, or_false, or_self] at hS <;> omega))
  have hvm6 := HVM.out.keep hkw6 (by simp)
  have hbp6 := (HB0.out.keepq (HS0.out.trans2 (HS1.out.trans2 (HS2.out.trans2 (HS3.out.trans2 (HS4.out.trans2 HS5.out))))) (fun hS => by first | exact False.elim hS | omega | (simp only [false_or, or_false, or_self] at hS <;> omega)) (fun hS => by first | exact False.elim hS | omega | (simp only [false_or, or_false, or_self] at hS <;> omega)) (fun hS => by first | exact False.elim hS | omega | (simp only [false_or, or_false, or_self] at hS <;> omega)) (fun hS => by first | exact False.elim hS | omega | (simp only [false_or, or_false, or_self] at hS <;> omega)))
  have HKW6 := hide hkw6
  have HVM6 := hide hvm6
  have HBP6 := hide hbp6
  clear hkw6 hvm6 hbp6
  refine (played_any HBP6.out _ lm HVM6.out (fun x hx => by have := HVML.out x hx; omega) hlm).mono ?_
  rintro e y7 ⟨rfl, held1, hbp7, hk7⟩
  have hs7 := hk7.size
  have HS6 := hide hk7.q4
  clear hk7
  have HBP7 := hide hbp7
  clear hbp7
  go_wp2_with fail
  have hbq7 := HBQ6.out.keepq HS6.out (fun hS => by first | exact False.elim hS | omega | (simp only [false_or, or_false, or_self] at hS <;> omega)) (fun hS => by first | exact False.elim hS | omega | (simp only [false_or, or_false, or_self] at hS <;> omega)) (fun hS => by first | exact False.elim hS | omega | (simp only [false_or, or_false, or_self] at hS <;> omega)) (fun hS => by first | exact False.elim hS | omega | (simp only [false_or, or_false, or_self] at hS <;> omega))
  have HBQ7 := hide hbq7
  clear hbq7
  refine (pSpans_any HBQ7.out.pool).mono ?_
  rw [runs_free]
  rintro e y8 ⟨v8, rfl, ho8, hk8⟩
  have hs8 := hk8.size
  have HS7 := hide hk8.q0
  clear hk8
  have HO8 := hide ho8
  clear ho8
  go_wp2_with fail
  refine (sameSpans_k HO8.out.rd (HO4.out.keepq (HS4.out.trans2 (HS5.out.trans2 (HS6.out.trans2 HS7.out))) (fun x hx hS => by have := HLT4.out x hx; first | exact False.elim hS | omega | (simp only [false_or, or_false, or_self] at hS <;> omega))).rd (by omega)).mono ?_
  rintro e y9 ⟨rfl, hk9⟩
  have hs9 := hk9.size
  have HS8 := hide hk9.q0
  clear hk9
  go_wp2_with fail
  refine (agrees_ok (HBQ7.out.keepq (HS7.out.trans2 HS8.out) (fun hS => by first | exact False.elim hS | omega | (simp only [false_or, or_false, or_self] at hS <;> omega)) (fun hS => by first | exact False.elim hS | omega | (simp only [false_or, or_false, or_self] at hS <;> omega)) (fun hS => by first | exact False.elim hS | omega | (simp only [false_or, or_false, or_self] at hS <;> omega)) (fun hS => by first | exact False.elim hS | omega | (simp only [false_or, or_false, or_self] at hS <;> omega)))).mono ?_
  rintro e y10 ⟨rfl, hk10⟩
  have hs10 := hk10.size
  have HS9 := hide hk10.q0
  clear hk10
  go_wp2_with fail
  refine (agrees_ok (HBP7.out.keepq (HS7.out.trans2 (HS8.out.trans2 HS9.out)) (fun hS => by first | exact False.elim hS | omega | (simp only [false_or, or_false, or_self] at hS <;> omega)) (fun hS => by first | exact False.elim hS | omega | (simp only [false_or, or_false, or_self] at hS <;> omega)) (fun hS => by first | exact False.elim hS | omega | (simp only [false_or, or_false, or_self] at hS <;> omega)) (fun hS => by first | exact False.elim hS | omega | (simp only [false_or, or_false, or_self] at hS <;> omega)))).mono ?_
  rintro e y11 ⟨rfl, hk11⟩
  have hs11 := hk11.size
  have HS10 := hide hk11.q0
  clear hk11
  have hbq11 := (HBQ7.out.keepq (HS7.out.trans2 (HS8.out.trans2 (HS9.out.trans2 HS10.out))) (fun hS => by first | exact False.elim hS | omega | (simp only [false_or, or_false, or_self] at hS <;> omega)) (fun hS => by first | exact False.elim hS | omega | (simp only [false_or, or_false, or_self] at hS <;> omega)) (fun hS => by first | exact False.elim hS | omega | (simp only [false_or, or_false, or_self] at hS <;> omega)) (fun hS => by first | exact False.elim hS | omega | (simp only [false_or, or_false, or_self] at hS <;> omega)))
  have hbp11 := (HBP7.out.keepq (HS7.out.trans2 (HS8.out.trans2 (HS9.out.trans2 HS10.out))) (fun hS => by first | exact False.elim hS | omega | (simp only [false_or, or_false, or_self] at hS <;> omega)) (fun hS => by first | exact False.elim hS | omega | (simp only [false_or, or_false, or_self] at hS <;> omega)) (fun hS => by first | exact False.elim hS | omega | (simp only [false_or, or_false, or_self] at hS <;> omega)) (fun hS => by first | exact False.elim hS | omega | (simp only [false_or, or_false, or_self] at hS <;> omega)))
  have hkw11 : Kp [] w y11 := (HKW0.out.trans2q (HS0.out.trans2 (HS1.out.trans2 (HS2.out.trans2 (HS3.out.trans2 (HS4.out.trans2 (HS5.out.trans2 (HS6.out.trans2 (HS7.out.trans2 (HS8.out.trans2 (HS9.out.trans2 HS10.out))))))))))).drop (fun x hS => by first | exact False.elim hS | omega | (simp only [false_or, or_false, or_self] at hS <;> omega))
  have hvm11 := HVM.out.keep hkw11 (by simp)
  have HBQ11 := hide hbq11
  have HBP11 := hide hbp11
  have HKW11 := hide hkw11
  have HVM11 := hide hvm11
  clear hbq11 hbp11 hkw11 hvm11
  go_wp2_with fail
  go_loopw [16] (fun i wr => (i = .int .i64 (-1) ∨ ∃ k : Nat, k < lm.length ∧ i = .int .i64 k) ∧ ∃ hd, Both wr qb qw qc (y4.heap.size + 1) y4.heap.size S hd ∧ Kp [qb, qw, y4.heap.size + 1, y4.heap.size] y11 wr) (fun i _ => (intOf i + 1).toNat)
  case atStart => exact ⟨by rcases Nat.eq_zero_or_pos lm.length with h0 | h0; (left; rw [h0]; rfl); (right; exact ⟨lm.length - 1, by omega, by refine congrArg (Value.int .i64) ?_; omega⟩), held, HBQ11.out, Kp.refl _ _⟩
  case round =>
    obtain ⟨rfl | ⟨k, hk, rfl⟩, hd, hbr, hkr⟩ := hrel
    · have HBR := hide hbr
      have HKR := hide hkr
      clear hbr hkr
      go_wp2_with fail
      refine (agrees_ok HBR.out).mono ?_
      rintro e z1 ⟨rfl, hkz1⟩
      have hkz : Kp [qb, qw, y4.heap.size + 1, y4.heap.size] y11 z1 := HKR.out.trans' (hkz1.mono (by simp))
      have hbz := HBP11.out.keep hkz (by simp; omega)
      have HBZ := hide hbz
      have HKZ := hide hkz
      clear hbz hkz
      go_wp2_with fail
      refine (agrees_ok HBZ.out).mono ?_
      rintro e z2 ⟨rfl, hkz2⟩
      go_wp2_with fail
      go_ret
      exact ⟨rfl, (HKW11.out.trans HKZ.out (by simp; omega)).trans' hkz2⟩
    · obtain ⟨s1, hs1r, hs1, hs1b⟩ := cut_move (a := am) hcm k hk
      have hvmr := (HVM11.out).keep hkr (fun x hx => by have := HVML.out x hx; simp; omega)
      have hs1v := hs1 _ hvmr
      have hs1o := hs1b _ hvmr
      have HBR := hide hbr
      have HKR := hide hkr
      have HS1V := hide hs1v
      have HS1O := hide hs1o
      clear hbr hkr hs1v hs1o
      clear hs1 hs1b hvmr
      have hkk : (0 : Int) ≤ (k : Int) := by omega
      go_wp2_with fail
      refine (played_any HBR.out s1 _ HS1V.out (fun x hx => by have := HVML.out x (HS1O.out x hx); omega) (by simp)).mono ?_
      rintro e z1 ⟨rfl, hd2, hbz, hkz⟩
      have HBZ := hide hbz
      have HKZ := hide hkz
      clear hbz hkz
      go_wp2_with fail
      go_roundw
      case rel => exact ⟨by rcases Nat.eq_zero_or_pos k with h0 | h0; (left; rw [h0]; rfl); (right; exact ⟨k - 1, by omega, by refine congrArg (Value.int .i64) ?_; omega⟩), hd2, HBZ.out, HKR.out.trans' HKZ.out⟩
      case measure => simp [intOf]
end Go.Proofs.Ytoghdhjeopcjkaa
