/- ExtentsNear: the walk: whatever the input, it answers true. Conditions: numbers of an int; the moves can be read. -/
import Derived.Test.YtoghdhjeopcjkaaNearH
import Derived.Test.YtoghdhjeopcjkaaSlS
namespace Go.Proofs.Ytoghdhjeopcjkaa
open Go.RowKit Go.Deep

/-- The last page taken of an area whose pages are A, behind t of them. -/
def lastv (F : Nat) (A : List Nat) (t : Nat) : Int := if t = 0 then (F : Int) - 1 else ((A[t - 1]?.getD 0 : Nat) : Int)
theorem lastv_zero (F : Nat) (A : List Nat) : lastv F A 0 = (F : Int) - 1 := rfl
theorem lastv_succ {F : Nat} {A : List Nat} {t x : Nat} (h : A[t]? = some x) : lastv F A (t + 1) = x := by simp [lastv, h]
theorem lastv_lt {F : Nat} {A : List Nat} (hr : A.Pairwise (· < ·)) (hF : ∀ i ∈ A, F ≤ i) {t x : Nat} (h : A[t]? = some x) : lastv F A t < x := by
  obtain ⟨ht, e⟩ := List.getElem?_eq_some_iff.1 h
  cases t with
  | zero => have := hF x (e ▸ List.getElem_mem ht); simp only [lastv, if_pos]; omega
  | succ t =>
    rw [lastv_succ (x := A[t]) (by rw [List.getElem?_eq_getElem])]
    have := List.pairwise_iff_getElem.1 hr t (t + 1) (by omega) ht (by omega)
    omega
theorem lastv_bd {F : Nat} {A : List Nat} (hF : ∀ i ∈ A, F ≤ i ∧ i < 1024) (hF1 : 1 ≤ F) (hF2 : F ≤ 1024) {t : Nat} (ht : t ≤ A.length) : 0 ≤ lastv F A t ∧ lastv F A t ≤ 1024 := by
  cases t with
  | zero => rw [lastv_zero]; omega
  | succ t =>
    have h := hF A[t] (List.getElem_mem _)
    rw [lastv_succ (x := A[t]) (by rw [List.getElem?_eq_getElem])]
    omega

set_option maxHeartbeats 600000 in
set_option maxRecDepth 100000 in
theorem near_walk (p c co n : Int) (v : Value) (l : List Mv) (w : World) (hp : I64 p) (hc : I64 c) (hco : I64 co) (hn : I64 n) (hv : RdM w v l) (hvl : ∀ x, v.ownBlock = some x → x < w.heap.size) (hlen : l.length ≤ 9223372036854775807) :
    Calls Try.prog 7 #[.int .i64 p, .int .i64 c, v, .int .i64 co, .int .i64 n] w fun e w' => e = .returned (.bool true) ∧ Kp [] w w' := by
  have hdI : I64 (p.tdiv 5) := tdiv_i64 hp 5 (by omega)
  obtain ⟨S, hS⟩ : ∃ S, S = shp p (p.tdiv 5) c := ⟨_, rfl⟩
  have ok : S.Ok := by rw [hS]; exact shp_ok _ _ _
  have o1 := ok.p2; have o2 := ok.c1; have o3 := ok.c2; have o4 := ok.d2
  obtain ⟨hp1, hp2⟩ := hp
  have hp : I64 p := ⟨hp1, hp2⟩
  have HP := hide hp
  have HC := hide hc
  have HCO := hide hco
  have HN := hide hn
  have HS := hide hS
  have OK := hide ok
  have HV := hide hv
  have HVL := hide hvl
  have HD := hide hdI
  clear hp hc hco hn hS ok hv hvl hdI
  go_enter Try.func7, Try.ntmps7
  go_wp2_with fail
  refine (shape_any _ _ _ HP.out HD.out HC.out _).mono ?_
  rw [← HS.out]
  rintro e w1 ⟨rfl, hk1⟩
  have hsh1 : ShAt (w1.alloc (.cells #[.int .i64 S.pages, .int .i64 S.inodes, .int .i64 S.cores, .int .i64 S.data] 23)) w1.heap.size S := blk_new _ _
  have hc1 := hsh1.cells
  have hkw1 : Kp [] w (w1.alloc (.cells #[.int .i64 S.pages, .int .i64 S.inodes, .int .i64 S.cores, .int .i64 S.data] 23)) := hk1.alloc _
  have HSH1 := hide hsh1
  have HKW1 := hide hkw1
  clear hsh1 hkw1
  clear hk1
  go_wp2_with fail
  go_region_held3 (fun w' => w'.cell? ⟨w1.heap.size, 0, none⟩ = some (.int .i64 S.pages) ∧ w'.cell? ⟨w1.heap.size, 1, none⟩ = some (.int .i64 S.inodes) ∧ w'.cell? ⟨w1.heap.size, 2, none⟩ = some (.int .i64 S.cores) ∧ w'.cell? ⟨w1.heap.size, 3, none⟩ = some (.int .i64 S.data))
    (first | exact z4 | exact z3 | exact hc1)
    (first
      | (go_at_call 19; refine (whole_any _ _ _ _ (by omega) (by omega) (by omega) _).mono ?_; rintro e w3 ⟨v3, rfl, hown3, hk3⟩; have hsh3 := HSH1.out.keep ((Kp.refl [] _).drew.trans' hk3) (by simp); have z3 := hsh3.cells; have HO3 := hide hown3; have HSH3 := hide hsh3; have HK3 := hide hk3; clear hown3 hsh3 hk3)
      | (go_at_call 14; refine (newPool_whole OK.out HO3.out).mono ?_; rintro e w4 ⟨pb, wb, cap, rfl, hpb, hwb, hpool, hk4⟩; have hsh4 := HSH3.out.keep hk4 (by simp); have z4 := hsh4.cells))
  have hk04 : Kp [] w w4 := HKW1.out.trans' ((Kp.refl [] _).drew.trans' (HK3.out.trans' hk4))
  have hs34 := (HKW1.out.trans' ((Kp.refl [] _).drew.trans' HK3.out)).size
  have hpl := hpool.m.lt
  have hwl := hpool.m.wlt
  have hmk := run_make_row' (P := Try.prog) 40 4 (.bool false) 1 Try.underlying40 Try.info_bool rfl .i64 .i64 S.pages (by omega) (by omega)
  obtain ⟨z40, z41, z42, z43⟩ := z4
  have hsl4 := blk_lt hsh4
  have HPOOL := hide hpool
  have HK04 := hide hk04
  have HSH4 := hide hsh4
  clear hpool hk04 hsh4
  clear hk4 z3 hc1
  go_wp2_with fail
  go_region_held3 (fun w' => w'.cell? ⟨w1.heap.size, 0, none⟩ = some (.int .i64 S.pages) ∧ w'.cell? ⟨w1.heap.size, 1, none⟩ = some (.int .i64 S.inodes) ∧ w'.cell? ⟨w1.heap.size, 2, none⟩ = some (.int .i64 S.cores) ∧ w'.cell? ⟨w1.heap.size, 3, none⟩ = some (.int .i64 S.data))
    (first | exact ⟨z40, z41, z42, z43⟩ | exact blk4 (blk_alloc HSH4.out _) | exact blk4 (blk_alloc (blk_alloc HSH4.out _) _))
    (fail)
  clear hmk
  have hb1 : ((w4.alloc (.cells (madeCells #[.bool false] S.pages) 4)).alloc (.cells #[.int .i64 S.pages, .int .i64 S.inodes, .int .i64 S.cores, .int .i64 S.data, .slice (some ⟨w4.heap.size, 0, none⟩) S.pages S.pages, .int .i64 0] 42)).heap[w4.heap.size + 1]? = some (.cells #[.int .i64 S.pages, .int .i64 S.inodes, .int .i64 S.cores, .int .i64 S.data, .slice (some ⟨w4.heap.size, 0, none⟩) S.pages S.pages, .int .i64 0] 42 (0, 0)) := blk_new' (by simp) _
  have hkb : Kp [] w4 ((w4.alloc (.cells (madeCells #[.bool false] S.pages) 4)).alloc (.cells #[.int .i64 S.pages, .int .i64 S.inodes, .int .i64 S.cores, .int .i64 S.data, .slice (some ⟨w4.heap.size, 0, none⟩) S.pages S.pages, .int .i64 0] 42)) := ((Kp.refl [] w4).alloc _).alloc _
  have hbo : Both ((w4.alloc (.cells (madeCells #[.bool false] S.pages) 4)).alloc (.cells #[.int .i64 S.pages, .int .i64 S.inodes, .int .i64 S.cores, .int .i64 S.data, .slice (some ⟨w4.heap.size, 0, none⟩) S.pages S.pages, .int .i64 0] 42)) pb wb cap (w4.heap.size + 1) w4.heap.size S (fun _ => false) :=
    ⟨HPOOL.out.keep hkb (by simp) (by simp), book_new hb1 (blk_alloc (blk_new _ _) _) (by omega), fun i hi => by simp at hi, by omega, by omega, by omega, by omega⟩
  generalize hW : (w4.alloc (.cells (madeCells #[.bool false] S.pages) 4)).alloc (.cells #[.int .i64 S.pages, .int .i64 S.inodes, .int .i64 S.cores, .int .i64 S.data, .slice (some ⟨w4.heap.size, 0, none⟩) S.pages S.pages, .int .i64 0] 42) = w5 at hbo hkb ⊢
  have hk05 := HK04.out.trans' hkb
  have hsh5 := HSH4.out.keep hkb (by simp)
  have hs5 := hkb.size
  have hs04 := HK04.out.size
  have HBO := hide hbo
  have HK05 := hide hk05
  have HSH5 := hide hsh5
  clear hbo hk05 hsh5
  clear hkb hb1 hW z40 z41 z42 z43
  go_wp2_with fail
  refine (played_any (HBO.out.keep0 (by first | exact (Kp.refl _ _).drewN _ | exact (Kp.refl _ _).drew)) v l (HV.out.keep (HK05.out.trans' (by first | exact (Kp.refl _ _).drewN _ | exact (Kp.refl _ _).drew)) (by simp)) (fun x hx => by have := HVL.out x hx; omega) hlen).mono ?_
  rintro e w6 ⟨rfl, held, hbo6, hk6⟩
  have hs13 := blk_lt HSH3.out
  have hkw6 : Kp [] w w6 := (HK05.out.trans' ((Kp.refl _ _).drew)).trans hk6 (by simp; omega)
  have hsh6 := (HSH5.out.keep ((Kp.refl [] _).drew) (by simp)).keep hk6 (by simp; omega)
  obtain ⟨sc60, sc61, sc62, sc63⟩ := hsh6.cells
  obtain ⟨bc60, bc62, bc63, bc64, bc65⟩ := hbo6.book.cells
  have hsz6 : w5.heap.size ≤ w6.heap.size := hk6.size
  have hcf := cnt_free hbo6.area
  have hcl := cnt_le held S.pages
  have hfl : (freeL S held).length = cnt (freeOf S held) S.pages := by rcases freeL_length (S := S) (held := held) with h | h; exact h; omega
  have HSH6 := hide hsh6
  have HBO6 := hide hbo6
  have HKW6 := hide hkw6
  clear hsh6 hbo6 hkw6
  clear hk6
  obtain ⟨fl, hfl2⟩ : ∃ fl, cnt (freeOf S held) S.pages = fl := ⟨_, rfl⟩
  obtain ⟨D, hD⟩ : ∃ D, S.pages - S.data = D := ⟨_, rfl⟩
  have e1 : IntKind.i64.wrap ((S.pages : Int) - (S.data : Int)) = (D : Int) := by rw [IntKind.wrap_i64]; omega
  have e2 : IntKind.i64.wrap ((D : Int) - (cnt held S.pages : Int)) = (fl : Int) := by rw [IntKind.wrap_i64]; omega
  have hflb : fl ≤ 1024 := by omega
  have HFL := hide hfl2
  have HDD := hide hD
  clear hfl2 hD
  clear hcf hfl
  go_wp2_with fail
  refine (pFree_any HBO6.out.pool).mono ?_
  rw [HFL.out]
  rintro e w7 ⟨rfl, rfl⟩
  go_wp2_with fail
  go_quiet (fail)
  go_wp2_with fail
  obtain ⟨c1, hc1⟩ : ∃ c1 : Nat, co % (S.cores : Int) = (c1 : Int) := ⟨(co % (S.cores : Int)).toNat, by have := Int.emod_nonneg co (show (S.cores : Int) ≠ 0 by omega); omega⟩
  have hc1b : c1 < S.cores := by have := Int.emod_lt_of_pos co (show (0 : Int) < (S.cores : Int) by omega); omega
  obtain ⟨n1, hn1⟩ : ∃ n1 : Nat, n % ((fl : Int) + 1) = (n1 : Int) := ⟨(n % ((fl : Int) + 1)).toNat, by have := Int.emod_nonneg n (show ((fl : Int) + 1) ≠ 0 by omega); omega⟩
  have hn1b : n1 ≤ fl := by have := Int.emod_lt_of_pos n (show (0 : Int) < ((fl : Int) + 1) by omega); omega
  have HC1 := hide hc1
  have HN1 := hide hn1
  clear hc1 hn1
  refine (place_any _ _ (by omega) (by omega) HCO.out.swap _).mono ?_
  rw [HC1.out]
  rintro e w7 ⟨rfl, rfl⟩
  go_wp2_with fail
  refine (place_any _ _ (by omega) (by omega) HN.out.swap _).mono ?_
  rw [HN1.out]
  rintro e w7 ⟨rfl, rfl⟩
  have hmk := run_make_row' (P := Try.prog) 49 3 (.int .i64 0) 8 Try.underlying49 Try.info_int rfl .i64 .i64 S.cores (by omega) (by omega)
  go_wp2_with fail
  have hba : BeforeAt ((w6.drewN nq).alloc (.cells (madeCells #[.int .i64 0] S.cores) 3)) w6.heap.size S.cores (fun j => (areaPg S (freeOf S held) j).length) 0 := BeforeAt.new (blk_new' rfl _)
  have hk67 : Kp [] w6 ((w6.drewN nq).alloc (.cells (madeCells #[.int .i64 0] S.cores) 3)) := ((Kp.refl _ _).drewN _).alloc _
  generalize (w6.drewN nq).alloc (.cells (madeCells #[.int .i64 0] S.cores) 3) = w7 at hba hk67 ⊢
  have hsz67 := hk67.size
  have hb67 := hba.lt
  have HBA := hide hba
  have HK67 := hide hk67
  clear hba hk67
  clear hmk sc60 sc61 sc62 sc63 bc60 bc62 bc63 bc64 bc65
  go_loopw [19] (fun i wr => ∃ k : Nat, k ≤ S.cores ∧ i = .int .i64 k ∧ Kp [w6.heap.size] w7 wr ∧ BeforeAt wr w6.heap.size S.cores (fun j => (areaPg S (freeOf S held) j).length) k) (fun i _ => S.cores - (intOf i).toNat)
  case atStart => exact ⟨0, by omega, rfl, Kp.refl _ _, HBA.out⟩
  case round =>
    obtain ⟨k, hk, rfl, hkr, hbr⟩ := hrel
    have hpl6 := HBO6.out.pool.m.lt
    have hpw6 := HBO6.out.pool.m.wlt
    have hk6r : Kp [w6.heap.size] w6 wr := (HK67.out.mono (by simp)).trans' hkr
    have hbor := HBO6.out.keep hk6r (by simp; have := HBO6.out.book.lt; have := HBO6.out.book.hlt; omega)
    have hs13 := blk_lt HSH6.out
    have hshr := HSH6.out.keep hk6r (by simp; omega)
    obtain ⟨r0, r1, r2, r3⟩ := hshr.cells
    have hszr := hk6r.size
    have HKR := hide hkr
    have HBR := hide hbr
    have HBOR := hide hbor
    have HSHR := hide hshr
    have HK6R := hide hk6r
    clear hkr hbr hbor hshr hk6r
    by_cases hlt : k < S.cores
    · go_wp2_with fail
      refine (pCore_in HBOR.out.pool _ k rfl hlt).mono ?_
      rw [runs_area]
      rintro e x1 ⟨u1, rfl, hox1, hkx1⟩
      have hbx := HBR.out.keep hkx1 (by simp)
      have hx1 := hkx1.size
      have hlen : (areaPg S (freeOf S held) k).length ≤ 1024 := by have := List.length_filter_le (freeOf S held) (List.range' (S.lo k) (S.lo (k + 1) - S.lo k)); rw [List.length_range'] at this; have := Sh.lo_bd OK.out (k + 1) (by omega); show (List.filter _ _).length ≤ 1024; omega
      have hpb : ∀ i ∈ areaPg S (freeOf S held) k, i < 1024 := fun i hi => by have := mem_area.1 hi; have := freeOf_true.1 this.2.2; omega
      have HOX1 := hide hox1
      have HKX1 := hide hkx1
      have HBX := hide hbx
      have HLEN := hide hlen
      have HPB := hide hpb
      clear hox1 hkx1 hbx hlen hpb
      go_wp2_with fail
      refine (count_any HOX1.out.rd HLEN.out HPB.out).mono ?_
      rintro e x2 ⟨rfl, kx, rfl⟩
      obtain ⟨⟨z, hz⟩, hzf⟩ := HBX.out.has hlt
      obtain ⟨m1, hm1⟩ : ∃ m1, (areaPg S (freeOf S held) k).length = m1 := ⟨_, rfl⟩
      have hm1b : m1 ≤ 1024 := by rw [← hm1]; exact HLEN.out
      have hk1' : (0 : Int) ≤ (k : Int) := by omega
      have hk2' : (k : Int) < (S.cores : Int) := by omega
      rw [hm1]
      have HM1 := hide hm1
      clear hm1
      go_wp2_with fail
      go_roundw
      case rel => exact ⟨k + 1, by omega, by go_num, ((HKR.out.trans' (HKX1.out.mono (by simp))).drewN _).set (by simp) _, (HBX.out.keep ((Kp.refl [] _).drewN _) (by simp)).put hlt (by simp only [HM1.out])⟩
      case measure => simp [intOf]; omega
    · have hkc : k = S.cores := by omega
      subst hkc
      clear hlt hk
      obtain ⟨P, hP⟩ : ∃ P, (order S (freeOf S held) c1).take n1 = P := ⟨_, rfl⟩
      have hta := take_told (held := held) (n := n1) OK.out hc1b
      have hPl : P.length = n1 := by
        rw [← hP, List.length_take, order_length (on := freeOf S held) OK.out hc1b (fun i hi => freeOf_low hi)]
        have e8 := HFL.out
        rw [Nat.min_eq_left (by omega)]
      have hPb : ∀ i ∈ P, i < 1024 := fun i hi => by have := hta.2 i (hP ▸ hi); omega
      rw [hP] at hta
      have hfree : n1 ≤ cnt (freeOf S held) S.pages := by have := HFL.out; omega
      have HPP := hide hP
      have HTA := hide hta
      have HPL := hide hPl
      have HPB := hide hPb
      clear hP hta hPl hPb
      go_wp2_with fail
      refine (pTake_ok HBOR.out.pool _ _ c1 n1 rfl rfl hc1b hfree).mono ?_
      rw [HPP.out]
      rintro e w8 ⟨v8, rfl, hown8, hp8, hk8⟩
      have hba8 := HBR.out.keep hk8 (by simp; have := HBO6.out.pool.m.lt; have := HBO6.out.pool.m.wlt; omega)
      have hsh8 := HSHR.out.keep hk8 (by simp; omega)
      have hs8 := hk8.size
      have hk68 : Kp [w6.heap.size, pb, wb] w6 w8 := (HK6R.out.mono (by simp)).trans' (hk8.mono (by simp))
      have hlt8 := hown8.lt
      have HO8 := hide hown8
      have HP8 := hide hp8
      have HBA8 := hide hba8
      have HSH8 := hide hsh8
      have HK68 := hide hk68
      have HLT8 := hide hlt8
      clear hown8 hp8 hba8 hsh8 hk68 hlt8
      clear hk8 r0 r1 r2 r3
      go_wp2_with fail
      have hcnt := count_any HO8.out.rd (by have := HPL.out; omega) HPB.out
      rw [HPL.out] at hcnt
      refine hcnt.mono ?_
      clear hcnt
      rintro e w9 ⟨rfl, k9, rfl⟩
      go_wp2_with fail
      have kmn := run_mn
      go_loopw [22, 23, 24] (fun lf at_ i wr => ∃ k : Nat, k ≤ S.cores ∧ i = .int .i64 k ∧ lf = .int .i64 (lft S (freeOf S held) c1 n1 k : Nat) ∧ at_ = .int .i64 ((n1 - lft S (freeOf S held) c1 n1 k : Nat) : Int) ∧ Kp [] w8 wr) (fun _ _ i _ => S.cores - (intOf i).toNat)
      case atStart => exact ⟨0, by omega, rfl, by rw [lft_zero], by rw [lft_zero, Nat.sub_self]; rfl, (Kp.refl _ _).drewN _⟩
      case round =>
        obtain ⟨wo, rfl⟩ : ∃ wo : World, wo = wr := ⟨_, rfl⟩
        obtain ⟨k, hk, rfl, rfl, rfl, hkr⟩ := hrel
        obtain ⟨r0, r1, r2, r3⟩ := (HSH8.out.keep hkr (by simp)).cells
        have hpr := HP8.out.keep hkr (by simp) (by simp)
        have hso := hkr.size
        have HKO := hide hkr
        have HPR := hide hpr
        clear hkr hpr
        by_cases hlt : k < S.cores
        · have hls := lft_succ S (freeOf S held) c1 n1 k
          have hmi := mine_in S (freeOf S held) c1 n1 OK.out hc1b hlt
          have hmp := fun j => mine_page S (freeOf S held) c1 n1 (j := j) hlt
          have hmr := mine_rest S (freeOf S held) c1 n1 hlt
          rw [HPP.out] at hmi hmr
          simp only [HPP.out] at hmp
          have ha : (c1 + k) % S.cores < S.cores := Nat.mod_lt _ (by omega)
          have hcast : ((c1 : Int) + (k : Int)) % (S.cores : Int) = (((c1 + k) % S.cores : Nat) : Int) := by simp
          obtain ⟨a, haa⟩ : ∃ a, (c1 + k) % S.cores = a := ⟨_, rfl⟩
          have hmd : mine S (freeOf S held) c1 n1 k = min (lft S (freeOf S held) c1 n1 k) (areaPg S (freeOf S held) a).length := by rw [← haa]; rfl
          rw [haa] at ha hcast hmi hmr
          simp only [haa] at hmp
          have hlm := Sh.lo_lt OK.out a
          have hlb := Sh.lo_bd OK.out (a + 1) (by omega)
          have hri := area_rising S (freeOf S held) a
          have hrn := runs_area S (minus (freeOf S held) P) a
          obtain ⟨F, hF⟩ : ∃ F, S.lo a = F := ⟨_, rfl⟩
          obtain ⟨C, hC⟩ : ∃ C, S.lo (a + 1) = F + C := ⟨S.lo (a + 1) - F, by omega⟩
          have hmem : ∀ i ∈ areaPg S (freeOf S held) a, F ≤ i ∧ i < F + C ∧ i < 1024 := fun i hi => by have := mem_area.1 hi; rw [hF, hC] at this; omega
          rw [hmr, hF, hC] at hrn
          rw [hF, hC] at hmi
          have hgb := HBA8.out.keep HKO.out (by simp)
          have hga := hgb.get ha
          rw [hF] at hlm
          rw [hC] at hlm hlb
          have hFd : 1 ≤ F := by have := Sh.lo_mono (S := S) 0 a (by omega); rw [Sh.lo_zero, hF] at this; have := OK.out.d1; omega
          generalize hA : areaPg S (freeOf S held) a = A at hmp hmd hri hrn hmem hga
          have hal2 := hA
          have hAl : A.length ≤ 1024 := by have := List.length_filter_le (freeOf S held) (List.range' (S.lo a) (S.lo (a + 1) - S.lo a)); rw [List.length_range'] at this; rw [← hA]; show (List.filter _ _).length ≤ 1024; omega
          generalize hlk : lft S (freeOf S held) c1 n1 k = lk at hls hmp hmd ⊢
          generalize hlk1 : lft S (freeOf S held) c1 n1 (k + 1) = lk1 at hls
          generalize hmm : mine S (freeOf S held) c1 n1 k = m at hls hmi hmp hmd hrn
          have hlkb : lk ≤ n1 := by rw [← hlk]; simp only [lft]; omega
          have hmn : mn (lk : Int) (A.length : Int) = (m : Int) := by simp only [mn]; split <;> omega
          have hmA : m ≤ A.length := by omega
          have hmlk : m ≤ lk := by omega
          obtain ⟨al, hal⟩ : ∃ al, A.length = al := ⟨_, rfl⟩
          rw [hal] at hAl hmn hga hmA
          have HMI := hide hmi
          have HMP := hide hmp
          have HRI := hide hri
          have HRN := hide hrn
          have HMEM := hide hmem
          have HF := hide hF
          have HC := hide hC
          have HAA := hide haa
          have HLK := hide hlk
          have HLK1 := hide hlk1
          have HAL := hide hal
          have HAL2 := hide hal2
          have HGB := hide hgb
          clear hmi hmp hri hrn hmem hF hC haa hlk hlk1 hal hal2 hgb
          clear hmr hmd hA hmm
          go_wp2_with fail
          refine (pArea_as HPR.out _ a F C rfl ha HF.out HC.out).mono ?_
          rintro e x1 ⟨rfl, hkx1⟩
          have hgx := hkx1.cell hga (by simp)
          have hx1 := hkx1.size
          have hlt8b := HBA8.out.lt
          have hne1 : w6.heap.size < x1.heap.size := by omega
          have hne2 : w6.heap.size ≠ x1.heap.size := by omega
          have hne3 : w1.heap.size ≠ x1.heap.size := by omega
          have HKX1 := hide hkx1
          clear hkx1
          clear hga
          go_wp2_with fail
          have hkxa : Kp [] wo (x1.alloc (.cells #[.int .i64 F, .int .i64 C] 31)) := HKX1.out.alloc _
          have hza := blk_new x1 (.cells #[.int .i64 F, .int .i64 C] 31)
          have hsa : (x1.alloc (.cells #[.int .i64 F, .int .i64 C] 31)).heap.size = x1.heap.size + 1 := by simp
          have HKXA := hide hkxa
          have HZA := hide hza
          have HSA := hide hsa
          clear hkxa hza hsa
          refine (inside_any (HO8.out.rd.keep (HKO.out.trans' HKXA.out) (by simp)) (by have := HPL.out; omega) HPB.out F C (by omega) (by omega) (fun x hx => by have := HLT8.out x hx; have := HSA.out; omega)).mono ?_
          rw [HMI.out]
          rintro e x2 ⟨rfl, hkx2⟩
          have hkx02 := HKXA.out.trans' hkx2
          obtain ⟨b0, b1⟩ := blk2 (hkx2.blk HZA.out (by simp))
          have hzx2 := hkx2.blk HZA.out (by simp)
          have hsx2 := hkx02.size
          have hsx12 : x1.heap.size < x2.heap.size := blk_lt hzx2
          have HK02 := hide hkx02
          have HZX2 := hide hzx2
          clear hkx02 hzx2
          clear hkx2 hgx
          go_wp2_with fail
          refine (pCore_in (HPR.out.keep HK02.out (by simp) (by simp)) _ a rfl ha).mono ?_
          rw [HF.out, HC.out, HRN.out]
          rintro e x3 ⟨u3, rfl, hox3, hkx3⟩
          obtain ⟨b0', b1'⟩ := blk2 (hkx3.blk HZX2.out (by simp))
          have hkx03 := HK02.out.trans' hkx3
          have hgx3 := HGB.out.keep hkx03 (by simp) |>.get ha
          rw [HAL2.out, HAL.out] at hgx3
          have hsx3 := hkx3.size
          have hrl0 := spansOf_length (A.drop m)
          obtain ⟨ra, rc, hu3⟩ := hox3.form
          obtain ⟨rl, hrl⟩ : ∃ rl, (spansOf (A.drop m)).length = rl := ⟨_, rfl⟩
          rw [hrl] at hu3 hrl0
          rw [List.length_drop, HAL.out] at hrl0
          subst hu3
          have HOX3 := hide hox3
          have HK03 := hide hkx03
          have HRL := hide hrl
          clear hox3 hkx03 hrl
          clear hkx3 b0 b1
          go_wp2_with fail
          have hFF : F ≤ 1024 := by omega
          have hCC : F + C ≤ 1024 := by omega
          go_loopw [23, 29, 30] (fun at_ la dn wr => ∃ t : Nat, t ≤ m ∧ dn = .int .i64 t ∧ at_ = .int .i64 ((n1 - lk + t : Nat) : Int) ∧ la = .int .i64 (lastv F A t) ∧ ∃ q, wr = x3.drewN q) (fun _ _ dn _ => m - (intOf dn).toNat)
          case atStart => exact ⟨0, by omega, rfl, by rw [Nat.add_zero], by rw [lastv_zero], 0, rfl⟩
          case round =>
            obtain ⟨t, ht, rfl, rfl, rfl, q, rfl⟩ := hrel
            have hlb1 := lastv_bd (F := F) (A := A) (fun i hi => by have := HMEM.out i hi; omega) hFd hFF (t := t) (by rw [HAL.out]; omega)
            by_cases htm : t < m
            · obtain ⟨x, hx⟩ : ∃ x, A[t]? = some x := ⟨A[t]'(by rw [HAL.out]; omega), List.getElem?_eq_getElem _⟩
              have hxm := HMEM.out x (List.mem_of_getElem? hx)
              have hxl := lastv_lt HRI.out (fun i hi => (HMEM.out i hi).1) hx
              have hxs := lastv_succ (F := F) hx
              have hpx := HMP.out t htm
              rw [hx] at hpx
              obtain ⟨hx1, hx2, hx3⟩ := hxm
              generalize lastv F A t = lv at hlb1 hxl ⊢
              have hx4 : ¬ (x : Int) ≤ lv := by omega
              have hx5 : ¬ (x : Int) < (F : Int) := by omega
              have hx6 : ¬ (F : Int) + (C : Int) ≤ (x : Int) := by omega
              have HXS := hide hxs
              have HPX := hide hpx
              clear hxs hpx
              clear hx
              go_wp2_with fail
              refine (pageAt_any (HO8.out.rd.keep (HKO.out.trans' (HK03.out.drewN _)) (by simp)) (by have := HPL.out; omega) HPB.out _ x HPX.out).mono ?_
              rintro e x5 ⟨rfl, k5, rfl⟩
              go_wp2_with fail
              go_roundw
              case rel => exact ⟨t + 1, by omega, by go_num, by go_num, by rw [HXS.out], _, rfl⟩
              case measure => simp [intOf]; omega
            · have htm' : t = m := by omega
              subst htm'
              have hcr : ∀ z, Calls Try.prog 30 #[.slice ra rl rc] (x3.drewN z) fun e w' => e = .returned (.int .i64 ((al - t : Nat) : Int)) ∧ ∃ k, w' = (x3.drewN z).drewN k := fun z => by
                have h := count_any (w := x3.drewN z) (P := A.drop t) (HOX3.out.rd.keep ((Kp.refl [] _).drewN _) (by simp)) (by rw [List.length_drop, HAL.out]; omega) (fun i hi => (HMEM.out i (List.mem_of_mem_drop hi)).2.2)
                rw [List.length_drop, HAL.out] at h
                exact h
              have ew : IntKind.i64.wrap ((al : Int) - (t : Int)) = ((al - t : Nat) : Int) := by rw [IntKind.wrap_i64]; omega
              have hfirst : rl = 0 ∨ ∃ g x0, 0 < rl ∧ ra = some ⟨g, 0, none⟩ ∧ x3.cell? ⟨g, 0, none⟩ = some (.int .i64 x0) ∧ ¬ x0 < lastv F A t := by
                rcases Nat.eq_zero_or_pos rl with h0 | h0
                · exact .inl h0
                · right
                  rcases HOX3.out.cases with ⟨_, h1⟩ | ⟨g, cc, h1, _⟩
                  · have := HRL.out; rw [h1] at this; simp at this; omega
                  · injection h1 with h2 h3 h4
                    have hc := HOX3.out
                    rw [h2] at hc
                    have hc := hc.cell (by rw [HRL.out]) 0 (by rw [HRL.out]; exact h0)
                    cases hd : A.drop t with
                    | nil => have := HRL.out; rw [hd] at this; simp [spansOf, spansOn] at this; omega
                    | cons y B =>
                      rw [hd] at hc
                      rw [(fr_first y B).1] at hc
                      have hy : A[t]? = some y := by have h := congrArg (fun l => l[0]?) hd; simpa using h
                      have hl := lastv_lt HRI.out (fun i hi => (HMEM.out i hi).1) hy
                      exact ⟨g, y, h0, h2, by simpa using hc.1, by omega⟩
              generalize lastv F A t = lv at hlb1 hfirst ⊢
              have HCR := hide hcr
              clear hcr
              have hq0 : n1 - lk + t = n1 - lk1 := by omega
              have hlk1 : (lk : Int) - (t : Int) = (lk1 : Int) := by omega
              have hlks : lft S (freeOf S held) c1 n1 (k + 1) = lk1 := HLK1.out
              have HQ0 := hide hq0
              have HLKS := hide hlks
              have HLKD := hide hlk1
              clear hq0 hlks hlk1
              rcases hfirst with h0 | ⟨g, x0, h0, rfl, hc0, hx0⟩
              · subst h0
                go_wp2_with fail
                go_quiet ((go_at_call 30; exact reads_on HCR.out _ _))
                go_wp2_with fail
                go_roundw
                case rel => exact ⟨k + 1, by omega, by go_num, by rw [HLKS.out, HLKD.out], by rw [HLKS.out]; first | rw [HQ0.out] | (refine congrArg (Value.int .i64) ?_; have := HQ0.out; omega), HKO.out.trans' (HK03.out.drewN _)⟩
                case measure => simp [intOf]; omega
              · have d0 : decide (0 < rl) = true := by simpa using h0
                have d1 : decide ((0 : Int) < (rl : Int)) = true := by simp; omega
                have d2 : (0 : Int) < (rl : Int) := by omega
                go_wp2_with fail
                go_quiet ((go_at_call 30; exact reads_on HCR.out _ _))
                go_wp2_with fail
                go_roundw
                case rel => exact ⟨k + 1, by omega, by go_num, by rw [HLKS.out, HLKD.out], by rw [HLKS.out]; first | rw [HQ0.out] | (refine congrArg (Value.int .i64) ?_; have := HQ0.out; omega), HKO.out.trans' (HK03.out.drewN _)⟩
                case measure => simp [intOf]; omega
        · have hkc2 : k = S.cores := by omega
          subst hkc2
          have hl0 : lft S (freeOf S held) c1 n1 S.cores = 0 := lft_last _ _ _ _ (by rw [order_length OK.out hc1b (fun i hi => freeOf_low hi), HFL.out]; omega)
          have hfe : cnt (minus (freeOf S held) P) S.pages = fl - n1 := by
            have h1 := cnt_free (HBO6.out.area)
            have h2 := cnt_free (S := S) (held := plus held P) (HBO6.out.area.plus fun i hi => ⟨(HTA.out.2 i hi).1, (HTA.out.2 i hi).2.1⟩)
            rw [← minus_free, cnt_plus HTA.out.1 fun i hi => ⟨(HTA.out.2 i hi).2.1, (HTA.out.2 i hi).2.2⟩, HPL.out] at h2
            rw [HFL.out] at h1
            omega
          have ew : IntKind.i64.wrap ((fl : Int) - (n1 : Int)) = ((fl - n1 : Nat) : Int) := by rw [IntKind.wrap_i64]; omega
          have ew2 : (fl : Int) - (n1 : Int) = ((fl - n1 : Nat) : Int) := by omega
          rw [hl0]
          have hkf : Kp [] w wo := (HKW6.out.trans (HK68.out.trans' (HKO.out.mono (by simp))) (by have := HKW6.out.size; simp; omega))
          have HFE := hide hfe
          have HKF := hide hkf
          have EW2 := hide ew2
          clear hfe hkf ew2
          clear hl0
          go_wp2_with fail
          refine (pFree_any HPR.out).mono ?_
          rw [HFE.out]
          rintro e x9 ⟨rfl, rfl⟩
          go_wp2_with fail
          go_ret
          exact ⟨rfl, HKF.out⟩
end Go.Proofs.Ytoghdhjeopcjkaa
