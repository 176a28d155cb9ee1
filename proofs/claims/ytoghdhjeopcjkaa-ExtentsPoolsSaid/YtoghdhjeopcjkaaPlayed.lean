/- The walk of the laws' played: moves on a pool with a book. Conditions: pool and book lie in memory and say the same (Both). -/
import Derived.Test.YtoghdhjeopcjkaaPlayP
import Derived.Test.YtoghdhjeopcjkaaShape
import Derived.Test.YtoghdhjeopcjkaaTake
import Derived.Deep.RegionHeld3
namespace Go.Proofs.Ytoghdhjeopcjkaa
open Go.RowKit

/-- A move: back?, N, M. -/
abbrev Mv := Bool × Int × Int
def mvb (l : List Mv) (i : Nat) : Bool := (l[i]?.getD (false, 0, 0)).1
def mvn (l : List Mv) (i : Nat) : Int := (l[i]?.getD (false, 0, 0)).2.1
def mvm (l : List Mv) (i : Nat) : Int := (l[i]?.getD (false, 0, 0)).2.2
/-- A slice of moves that is read. -/
def RdM (w : World) (v : Value) (l : List Mv) : Prop :=
  ∃ a cap, v = .slice a l.length cap ∧ (l = [] ∨ ∃ g o, a = some ⟨g, o, none⟩ ∧ ∀ i, i < l.length → w.cell? ⟨g, o + i * 3, none⟩ = some (.bool (mvb l i)) ∧ w.cell? ⟨g, o + i * 3 + 1, none⟩ = some (.int .i64 (mvn l i)) ∧ w.cell? ⟨g, o + i * 3 + 2, none⟩ = some (.int .i64 (mvm l i)) ∧ I64 (mvn l i) ∧ I64 (mvm l i))
theorem RdM.keep {S : List Nat} {w w' : World} {v : Value} {l : List Mv} (h : RdM w v l) (k : Kp S w w') (hS : ∀ b, v.ownBlock = some b → b ∉ S) : RdM w' v l := by
  obtain ⟨a, cap, rfl, h | ⟨g, o, rfl, h⟩⟩ := h
  · exact ⟨_, _, rfl, .inl h⟩
  · exact ⟨_, _, rfl, .inr ⟨g, o, rfl, fun i hi => ⟨k.cell (h i hi).1 (hS _ rfl), k.cell (h i hi).2.1 (hS _ rfl), k.cell (h i hi).2.2.1 (hS _ rfl), (h i hi).2.2.2⟩⟩⟩

/-- A pool and a book that say the same. -/
structure Both (w : World) (b wb cap bb hb : Nat) (S : Sh) (held : Nat → Bool) : Prop where
  pool : PoolAt w b wb cap S (freeOf S held)
  book : BookAt w bb hb S S.pages held (cnt held S.pages)
  area : InA S held
  ne1 : b ≠ bb
  ne2 : b ≠ hb
  ne3 : wb ≠ bb
  ne4 : wb ≠ hb
theorem Both.keep {L : List Nat} {w w' : World} {b wb cap bb hb : Nat} {S : Sh} {held : Nat → Bool} (h : Both w b wb cap bb hb S held) (k : Kp L w w') (hL : ∀ x ∈ L, x ≠ b ∧ x ≠ wb ∧ x ≠ bb ∧ x ≠ hb) : Both w' b wb cap bb hb S held :=
  ⟨h.pool.keep k (fun hx => (hL _ hx).1 rfl) (fun hx => (hL _ hx).2.1 rfl), h.book.keep k (fun hx => (hL _ hx).2.2.1 rfl) (fun hx => (hL _ hx).2.2.2 rfl), h.area, h.ne1, h.ne2, h.ne3, h.ne4⟩
theorem Both.keep0 {w w' : World} {b wb cap bb hb : Nat} {S : Sh} {held : Nat → Bool} (h : Both w b wb cap bb hb S held) (k : Kp [] w w') : Both w' b wb cap bb hb S held := h.keep k (by simp)

set_option maxHeartbeats 4000000 in
set_option maxRecDepth 100000 in
theorem played_any {w : World} {b wb cap bb hb : Nat} {S : Sh} {held : Nat → Bool} (h : Both w b wb cap bb hb S held) (v : Value) (l : List Mv) (hv : RdM w v l) (hvb : ∀ x, v.ownBlock = some x → x ≠ b ∧ x ≠ wb ∧ x ≠ bb ∧ x ≠ hb)
    (hlen : l.length ≤ 9223372036854775807) :
    Calls Try.prog 20 #[.pointer (some ⟨b, 0, none⟩), .pointer (some ⟨bb, 0, none⟩), v] w fun e w' => e = .returned (.bool true) ∧ ∃ held', Both w' b wb cap bb hb S held' ∧ Kp [b, wb, bb, hb] w w' := by
  obtain ⟨a, lc, rfl, hrd⟩ := hv
  have ok := h.pool.ok
  have o1 := ok.p2; have o2 := ok.d2; have o3 := ok.c1; have o4 := ok.c2; have o5 := ok.p1
  have H := hide h
  have HR := hide hrd
  have OK := hide ok
  clear h hrd ok
  go_enter Try.func20, Try.ntmps20
  go_wp2
  go_loopw [7] (fun i wr => ∃ k : Nat, ∃ hd : Nat → Bool, k ≤ l.length ∧ i = .int .i64 k ∧ Both wr b wb cap bb hb S hd ∧ Kp [b, wb, bb, hb] w wr) (fun i _ => l.length - (intOf i).toNat)
  case atStart => exact ⟨0, held, by omega, rfl, H.out, Kp.refl _ _⟩
  case round =>
    obtain ⟨k, hd, hk, rfl, hbo, hkp⟩ := hrel
    by_cases hlt : k < l.length
    · rcases HR.out with hnil | ⟨g, o, rfl, hrd⟩
      · subst hnil; simp at hlt
      have hgb := hvb g rfl
      obtain ⟨q0, q1, q2, q3, q4⟩ := hrd k hlt
      have hgl : g ∉ [b, wb, bb, hb] := by simp; omega
      have m0 := hkp.cell q0 hgl
      have m1 := hkp.cell q1 hgl
      have m2 := hkp.cell q2 hgl
      generalize mvb l k = mb at q0 m0
      generalize mvn l k = N at q1 m1 q3
      generalize mvm l k = M at q2 m2 q4
      have hws := hkp.size
      have hbl := hbo.pool.m.lt
      have hwl := hbo.pool.m.wlt
      have hbkl := hbo.book.lt
      have hhl := hbo.book.hlt
      obtain ⟨y0, y2, y3, y4, y5⟩ := hbo.book.cells
      have HBO := hide hbo
      have HKP := hide hkp
      have Q3 := hide q3
      have Q4 := hide q4
      have HGL := hide hgl
      clear hbo hkp q3 q4 hgl
      clear hrd q0 q1 q2
      cases mb with
      | true =>
        obtain ⟨n1, hn1⟩ : ∃ n1 : Nat, N % 40 = (n1 : Int) := ⟨(N % 40).toNat, by omega⟩
        obtain ⟨a1, ha1⟩ : ∃ a1 : Nat, M % (S.pages : Int) = (a1 : Int) := ⟨(M % (S.pages : Int)).toNat, by have := Int.emod_nonneg M (show (S.pages : Int) ≠ 0 by omega); omega⟩
        have hn1b : n1 ≤ 40 := by omega
        have ha1b : a1 ≤ 1024 := by have := Int.emod_lt_of_pos M (show (0 : Int) < (S.pages : Int) by omega); omega
        have HN1 := hide hn1
        have HA1 := hide ha1
        clear hn1 ha1
        go_wp2
        go_region_held3 (fun w' => w'.cell? ⟨g, o + k * 3 + 1, none⟩ = some (.int .i64 N) ∧ w'.cell? ⟨g, o + k * 3 + 2, none⟩ = some (.int .i64 M) ∧ w'.cell? ⟨bb, 0, none⟩ = some (.int .i64 S.pages))
          (first | exact ⟨z1, z2, z3⟩ | exact ⟨m1, m2, y0⟩)
          (first
            | (go_at_call 24; refine (place_any _ _ (by omega) (by omega) (by first | exact Q3.out.swap | exact Q4.out.swap) _).mono ?_; (first | rw [HN1.out] | rw [HA1.out]); rintro e w9 ⟨rfl, rfl⟩)
            | (go_at_call 25; refine (some_ok (HBO.out.book.keep ((Kp.refl [] _).drew) (by simp) (by simp)) OK.out _ _ n1 a1 rfl rfl (by omega) (by omega)).mono ?_; rintro e w5 ⟨v5, rfl, hown5, hbk5, hk5⟩; have z1 := hk5.cell (a := ⟨g, o + k * 3 + 1, none⟩) m1 (by simp; omega); have z2 := hk5.cell (a := ⟨g, o + k * 3 + 2, none⟩) m2 (by simp; omega); have z3 := hbk5.cells.1))
        obtain ⟨R, hR⟩ : ∃ R, someTo S hd a1 n1 (S.pages - S.data) = R := ⟨_, rfl⟩
        rw [hR] at hown5 hbk5
        have hRm : ∀ i ∈ R, hd i = true := fun i hi => by rw [← hR] at hi; exact (mem_some hi).2
        have hRn : R.Nodup := by rw [← hR]; exact some_nodup (Nat.le_refl _)
        have hRl : R.length ≤ 40 := by have := some_length S hd a1 n1 (S.pages - S.data); rw [hR] at this; omega
        have hlt5 := hown5.lt
        have hp5 := HBO.out.pool.keep (((Kp.refl [bb, hb] _).drew).trans' hk5) (by simp; exact ⟨HBO.out.ne1, HBO.out.ne2⟩) (by simp; exact ⟨HBO.out.ne3, HBO.out.ne4⟩)
        have hkp5 : Kp [b, wb, bb, hb] w w5 := HKP.out.trans' ((Kp.refl _ _).drew.trans hk5 (by simp))
        have hRa : ∀ i ∈ R, S.data ≤ i ∧ i < S.pages := fun i hi => HBO.out.area i (hRm i hi)
        have hs5 := hk5.size
        have HOWN5 := hide hown5
        have HBK5 := hide hbk5
        have HK5 := hide hkp5
        have HP5 := hide hp5
        have HLT5 := hide hlt5
        have HRM := hide hRm
        have HRN := hide hRn
        have HRA := hide hRa
        clear hown5 hbk5 hkp5 hp5 hlt5 hRm hRn hRa
        clear hk5 hR z1 z2 z3
        go_wp2_with fail
        refine (pGive_any HP5.out v5 (nis R) HOWN5.out.rd (fun x hx => by have := HLT5.out x hx; simp at this; omega) (by rw [nis_length]; omega)).mono ?_
        rintro e w6 ⟨hk6, ⟨hno, _⟩ | ⟨_, hno, _⟩ | ⟨_, _, rfl, hp6⟩⟩
        case inl => exact absurd (inTo_nis HRA.out) hno
        case inr.inl => rw [tw_nis HRN.out (fun i hi => freeOf_held (HRM.out i hi))] at hno; cases hno
        rw [pl_nis, plus_free HRA.out] at hp6
        have hb6 : Both w6 b wb cap bb hb S (minus hd R) := ⟨hp6, HBK5.out.keep hk6 (by simp; exact ⟨HBO.out.ne1.symm, HBO.out.ne3.symm⟩) (by simp; exact ⟨HBO.out.ne2.symm, HBO.out.ne4.symm⟩), HBO.out.area.minus, HBO.out.ne1, HBO.out.ne2, HBO.out.ne3, HBO.out.ne4⟩
        have hkp6 := HK5.out.trans hk6 (by simp)
        have HB6 := hide hb6
        have HKP6 := hide hkp6
        clear hb6 hkp6
        clear hp6 hk6
        go_wp2_with fail
        go_roundw
        case rel => exact ⟨k + 1, minus hd R, by omega, by go_num, HB6.out, HKP6.out⟩
        case measure => simp [intOf]; omega
      | false =>
        obtain ⟨c1, hc1⟩ : ∃ c1 : Nat, N % (S.cores : Int) = (c1 : Int) := ⟨(N % (S.cores : Int)).toNat, by have := Int.emod_nonneg N (show (S.cores : Int) ≠ 0 by omega); omega⟩
        obtain ⟨n1, hn1⟩ : ∃ n1 : Nat, M % 40 = (n1 : Int) := ⟨(M % 40).toNat, by omega⟩
        have hn1b : n1 ≤ 40 := by omega
        have hc1b : c1 < S.cores := by have := Int.emod_lt_of_pos N (show (0 : Int) < (S.cores : Int) by omega); omega
        have HN1 := hide hn1
        have HC1 := hide hc1
        clear hn1 hc1
        by_cases hfull : n1 ≤ cnt (freeOf S hd) S.pages
        · go_wp2
          go_region_held3 (fun w' => w'.cell? ⟨g, o + k * 3 + 1, none⟩ = some (.int .i64 N) ∧ w'.cell? ⟨g, o + k * 3 + 2, none⟩ = some (.int .i64 M) ∧ w'.cell? ⟨bb, 2, none⟩ = some (.int .i64 S.cores))
            (first | exact ⟨z1, z2, z3⟩ | exact ⟨m1, m2, y2⟩)
            (first
              | (go_at_call 24; refine (place_any _ _ (by omega) (by omega) (by first | exact Q3.out.swap | exact Q4.out.swap) _).mono ?_; (first | rw [HN1.out] | rw [HC1.out]); rintro e w9 ⟨rfl, rfl⟩)
              | (go_at_call 23; refine (pTake_ok (HBO.out.pool.keep ((Kp.refl [] _).drew) (by simp) (by simp)) _ _ c1 n1 rfl rfl hc1b hfull).mono ?_; rintro e w5 ⟨v5, rfl, hown5, hp5, hk5⟩; have z1 := hk5.cell (a := ⟨g, o + k * 3 + 1, none⟩) m1 (by simp; omega); have z2 := hk5.cell (a := ⟨g, o + k * 3 + 2, none⟩) m2 (by simp; omega); have z3 := hk5.cell (a := ⟨bb, 2, none⟩) y2 (by simp; exact ⟨HBO.out.ne1.symm, HBO.out.ne3.symm⟩)))
          obtain ⟨P, hP⟩ : ∃ P, (order S (freeOf S hd) c1).take n1 = P := ⟨_, rfl⟩
          have htold := take_told (held := hd) (n := n1) OK.out hc1b
          rw [hP] at hown5 hp5 htold
          have hPl : P.length ≤ 40 := by rw [← hP]; simp; omega
          have hlt5 := hown5.lt
          have hbk5 := HBO.out.book.keep (((Kp.refl [b, wb] _).drew).trans' hk5) (by simp; exact ⟨HBO.out.ne1.symm, HBO.out.ne3.symm⟩) (by simp; exact ⟨HBO.out.ne2.symm, HBO.out.ne4.symm⟩)
          have hkp5 : Kp [b, wb, bb, hb] w w5 := HKP.out.trans' ((Kp.refl _ _).drew.trans hk5 (by simp))
          have hs5 := hk5.size
          have hcl := cnt_le hd S.pages
          have hsl := spansOf_length P
          have HOWN5 := hide hown5
          have HBK5 := hide hbk5
          have HK5 := hide hkp5
          have HP5 := hide hp5
          have HLT5 := hide hlt5
          have HTO := hide htold
          clear hown5 hbk5 hkp5 hp5 hlt5 htold
          clear hk5 hP z1 z2 z3
          go_wp2_with fail
          refine (took_ok HBK5.out v5 (spansOf P) HOWN5.out.rd (fun x hx => by have := HLT5.out x hx; simp at this; omega) o1 (by omega) (by omega)
            (span_all fun i hi => ⟨(HTO.out.2 i hi).1, (HTO.out.2 i hi).2.1⟩) (spansOf_apart P) (span_new HTO.out.1 fun i hi => (HTO.out.2 i hi).2.2) (by rw [pagesL_spansOf]; omega)).mono ?_
          rw [pagesL_spansOf]
          rintro e w6 ⟨rfl, hbk6, hk6⟩
          have hb6 : Both w6 b wb cap bb hb S (plus hd P) := ⟨by rw [← minus_free]; exact HP5.out.keep hk6 (by simp; exact ⟨HBO.out.ne1, HBO.out.ne2⟩) (by simp; exact ⟨HBO.out.ne3, HBO.out.ne4⟩),
            by rw [cnt_plus HTO.out.1 fun i hi => ⟨(HTO.out.2 i hi).2.1, (HTO.out.2 i hi).2.2⟩]; exact hbk6, HBO.out.area.plus fun i hi => ⟨(HTO.out.2 i hi).1, (HTO.out.2 i hi).2.1⟩, HBO.out.ne1, HBO.out.ne2, HBO.out.ne3, HBO.out.ne4⟩
          have hkp6 := HK5.out.trans hk6 (by simp)
          have HB6 := hide hb6
          have HKP6 := hide hkp6
          clear hb6 hkp6
          clear hbk6 hk6
          go_wp2_with fail
          go_roundw
          case rel => exact ⟨k + 1, plus hd P, by omega, by go_num, HB6.out, HKP6.out⟩
          case measure => simp [intOf]; omega
        · go_wp2
          go_region_held3 (fun w' => w'.cell? ⟨g, o + k * 3 + 1, none⟩ = some (.int .i64 N) ∧ w'.cell? ⟨g, o + k * 3 + 2, none⟩ = some (.int .i64 M) ∧ w'.cell? ⟨bb, 2, none⟩ = some (.int .i64 S.cores))
            (first | exact ⟨z1, z2, z3⟩ | exact ⟨m1, m2, y2⟩)
            (first
              | (go_at_call 24; refine (place_any _ _ (by omega) (by omega) (by first | exact Q3.out.swap | exact Q4.out.swap) _).mono ?_; (first | rw [HN1.out] | rw [HC1.out]); rintro e w9 ⟨rfl, rfl⟩)
              | (go_at_call 23; refine (pTake_full (HBO.out.pool.keep ((Kp.refl [] _).drew) (by simp) (by simp)) _ _ (by omega) (by omega) (by omega) (by omega)).mono ?_; rintro e w5 ⟨rfl, rfl⟩))
          have hcl := cnt_le hd S.pages
          go_wp2_with fail
          refine (took_ok (HBO.out.book.keep ((Kp.refl [] _).drew) (by simp) (by simp)) (.slice none 0 0) [] (RdS.nil _) (fun x hx => by cases hx) o1 (by omega) (by simp) (fun j hj => by simp at hj) (fun j hj => by simp at hj) (fun j hj => by simp at hj) (by simp [pagesL])).mono ?_
          rw [show pagesL [] = [] from rfl, plus_nil]
          rintro e w6 ⟨rfl, hbk6, hk6⟩
          have hb6 : Both w6 b wb cap bb hb S hd := ⟨HBO.out.pool.keep (((Kp.refl [bb, hb] _).drew).trans' hk6) (by simp; exact ⟨HBO.out.ne1, HBO.out.ne2⟩) (by simp; exact ⟨HBO.out.ne3, HBO.out.ne4⟩), hbk6, HBO.out.area, HBO.out.ne1, HBO.out.ne2, HBO.out.ne3, HBO.out.ne4⟩
          have hkp6 := HKP.out.trans' (((Kp.refl [b, wb, bb, hb] _).drew).trans hk6 (by simp))
          have HB6 := hide hb6
          have HKP6 := hide hkp6
          clear hb6 hkp6
          clear hbk6 hk6
          go_wp2_with fail
          go_roundw
          case rel => exact ⟨k + 1, hd, by omega, by go_num, HB6.out, HKP6.out⟩
          case measure => simp [intOf]; omega
    · have hkl : k = l.length := by omega
      subst hkl
      go_wp2
      go_ret
      exact ⟨rfl, hd, hbo, hkp⟩
end Go.Proofs.Ytoghdhjeopcjkaa
