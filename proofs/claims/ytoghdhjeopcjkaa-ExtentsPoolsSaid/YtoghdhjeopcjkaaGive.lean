/- The walk of Pool.Give. Conditions: the pool lies in memory (PoolAt). -/
import Derived.Test.YtoghdhjeopcjkaaInts
import Derived.Test.YtoghdhjeopcjkaaNew
namespace Go.Proofs.Ytoghdhjeopcjkaa
open Go.RowKit

section
variable {w : World} {b wb cap T : Nat} {tail : List Value} {n : Nat} {on : Nat → Bool}
/-- marks.set of any mark of the bitmap -/
theorem mset_put (h : MarksAt w b wb cap T tail n on) (x : Int) (i : Nat) (hx : x = i) (hi : i < n) (v : Bool) (hv : on i = v) :
    Calls Try.prog 43 #[.pointer (some ⟨b, 0, none⟩), .int .i64 x] w fun e w' => e = .returned (.bool (!v)) ∧ MarksAt w' b wb cap T tail n (put on i true) ∧ Kp [b, wb] w w' := by
  subst hx; subst hv
  cases ho : on i with
  | false => exact (mset_any h i hi ho).mono fun e w' h2 => by simpa using h2
  | true =>
    refine (mset_no h (i : Int) (.inr (.inr (by simpa using ho)))).mono ?_
    rintro e w' ⟨rfl, k, rfl⟩
    rw [put_self ho]
    exact ⟨rfl, h.drewN k, (Kp.refl _ _).drewN k⟩
theorem marks_lit {w1 : World} {bb wb2 m k : Nat} {T : Nat} (hb : w1.heap[bb]? = some (.cells #[.int .i64 m, .int .i64 0, .slice (some ⟨wb2, 0, none⟩) k k] T (0, 0))) (hw : w1.heap[wb2]? = some (.cells (madeCells #[.int .u64 0] k) 107 (0, 0)))
    (hk : k = (m + 63) / 64) (hm : m ≤ 1024) (hne : bb ≠ wb2) : MarksAt w1 bb wb2 k T [] m (fun _ => false) := by
  subst hk
  refine ⟨?_, ⟨_, hw, fun k hk => ⟨0, made_at _ _ _ hk, word_zero k (fun _ => rfl)⟩⟩, hne, hm, fun _ _ => rfl⟩
  rw [hb, cnt_zero' m]; rfl
end

/-- What Give's first loop has put down of the first k pages: which it has seen, and whether one comes twice. -/
def bk (on : Nat → Bool) (l : List Int) : Nat → Nat → Bool
  | 0 => fun _ => false
  | k + 1 => if on (gi l k).toNat then bk on l k else put (bk on l k) (gi l k).toNat true
def tw (on : Nat → Bool) (l : List Int) : Nat → Bool
  | 0 => false
  | k + 1 => tw on l k || (on (gi l k).toNat || bk on l k (gi l k).toNat)
def twv (v : Bool) : Int := if v then 51 else 0
theorem twv_or (v : Bool) : twv (v || true) = 51 := by simp [twv]
/-- The marks with the first k pages set. -/
def pl (on : Nat → Bool) (l : List Int) : Nat → Nat → Bool
  | 0 => on
  | k + 1 => put (pl on l k) (gi l k).toNat true
def inTo (S : Sh) (l : List Int) (k : Nat) : Prop := ∀ j, j < k → (S.data : Int) ≤ gi l j ∧ gi l j < S.pages

def GivePost (S : Sh) (b wb cap : Nat) (on : Nat → Bool) (l : List Int) (w : World) (e : Ending) (w' : World) : Prop :=
  Kp [b, wb] w w' ∧ ((¬ inTo S l l.length ∧ e = .returned (.int .i64 52) ∧ PoolAt w' b wb cap S on) ∨ (inTo S l l.length ∧ tw on l l.length = true ∧ e = .returned (.int .i64 51) ∧ PoolAt w' b wb cap S on) ∨
    (inTo S l l.length ∧ tw on l l.length = false ∧ e = .returned (.int .i64 0) ∧ PoolAt w' b wb cap S (pl on l l.length)))

section
variable {w : World} {b wb cap : Nat} {on : Nat → Bool} {S : Sh}
set_option maxHeartbeats 2000000 in
set_option maxRecDepth 100000 in
theorem pGive_any (h : PoolAt w b wb cap S on) (v : Value) (l : List Int) (hv : RdI w v l) (hvb : ∀ x, v.ownBlock = some x → x ≠ b ∧ x ≠ wb) (hlen : l.length ≤ 1099511627776) :
    Calls Try.prog 27 #[.pointer (some ⟨b, 0, none⟩), v] w (GivePost S b wb cap on l w) := by
  obtain ⟨a, lc, rfl, hrd⟩ := hv
  obtain ⟨Q, hQ⟩ : ∃ Q, Q = GivePost S b wb cap on l w := ⟨_, rfl⟩
  rw [← hQ]
  have hm : mn (mx (S.pages : Int) 0) 1024 = S.pages := by have := mx_le (S.pages : Int) 0; have := mn_le (mx (S.pages : Int) 0) 1024; have := h.ok.p2; omega
  have c3 := h.c3
  have hbl := h.m.lt
  have hwl := h.m.wlt
  have o1 := h.ok.p2
  have H := hide h
  have HM := hide hm
  have HQ := hide hQ
  have HR := hide hrd
  clear hm hQ hrd
  clear h
  go_enter Try.func27, Try.ntmps27
  go_wp2_with (go_at_call 42; refine (newMarks_any _ S.pages HM.out _).mono ?_; rintro e w1 ⟨wb2, rfl, hwb2, hw2, hk1⟩)
  have hback : MarksAt (w1.alloc (.cells #[.int .i64 S.pages, .int .i64 0, .slice (some ⟨wb2, 0, none⟩) ((S.pages + 63) / 64) ((S.pages + 63) / 64)] 94)) w1.heap.size wb2 ((S.pages + 63) / 64) 94 [] S.pages (fun _ => false) :=
    marks_lit (blk_new _ _) (blk_alloc hw2 _) rfl o1 (by have := blk_lt hw2; omega)
  have hk2 : Kp [] w (w1.alloc (.cells #[.int .i64 S.pages, .int .i64 0, .slice (some ⟨wb2, 0, none⟩) ((S.pages + 63) / 64) ((S.pages + 63) / 64)] 94)) := hk1.alloc _
  have hs1 := hk1.size
  have hwb3 := blk_lt hw2
  have HBACK := hide hback
  have HK2 := hide hk2
  clear hback hk2
  clear hw2 hk1
  go_loopw [6, 19] (fun ev i wr => ∃ k : Nat, k ≤ l.length ∧ i = .int .i64 k ∧ ev = .int .i64 (twv (tw on l k)) ∧ inTo S l k ∧ Kp [] w wr ∧ MarksAt wr w1.heap.size wb2 ((S.pages + 63) / 64) 94 [] S.pages (bk on l k)) (fun _ i _ => l.length - (intOf i).toNat)
  case atStart => exact ⟨0, by omega, rfl, rfl, fun j hj => by omega, HK2.out, HBACK.out⟩
  case round =>
    obtain ⟨k, hk, rfl, rfl, hin, hkr, hbk⟩ := hrel
    by_cases hlt : k < l.length
    · rcases HR.out with hnil | ⟨g, rfl, hrd⟩
      · subst hnil; simp at hlt
      have hcell := hkr.cell (hrd k hlt) (by simp)
      have hp1 := H.out.keep hkr (by simp) (by simp)
      have hmem : ∀ x, gi l k = x → ¬ ((S.data : Int) ≤ x ∧ x < S.pages) → ¬ inTo S l l.length := fun x hx h1 h2 => h1 (by have := h2 k hlt; rw [hx] at this; exact this)
      have hin2 : ∀ x, gi l k = x → (S.data : Int) ≤ x → x < S.pages → inTo S l (k + 1) := fun x hx h1 h2 j hj => by
        by_cases e : j = k
        · subst e; rw [hx]; exact ⟨h1, h2⟩
        · exact hin j (by omega)
      have htw : ∀ x v1 v2, gi l k = x → on x.toNat = v1 → bk on l k x.toNat = v2 → tw on l (k + 1) = (tw on l k || (v1 || v2)) := fun x v1 v2 h1 h2 h3 => by simp only [tw]; rw [h1, h2, h3]
      have hb2 : ∀ x v1, gi l k = x → on x.toNat = v1 → bk on l (k + 1) = if v1 then bk on l k else put (bk on l k) x.toNat true := fun x v1 h1 h2 => by simp only [bk]; rw [h1, h2]
      generalize hx : gi l k = x at hcell
      have hmem := hmem x hx
      have hin2 := hin2 x hx
      have htw := fun v1 v2 => htw x v1 v2 hx
      have hb2 := fun v1 => hb2 x v1 hx
      have hwr := hkr.size
      have HP1 := hide hp1
      have HMEM := hide hmem
      have HIN2 := hide hin2
      have HTW := hide htw
      have HB2 := hide hb2
      have HKR := hide hkr
      have HBK := hide hbk
      clear hp1 hmem hin2 htw hb2 hkr hbk
      clear hrd hx hin
      by_cases hpg : (S.data : Int) ≤ x ∧ x < S.pages
      · have hpr : (decide ((S.data : Int) ≤ x) && decide (x < (S.pages : Int))) = true := by simp; exact hpg
        obtain ⟨hx1, hx2⟩ := hpg
        obtain ⟨x, rfl⟩ := Int.eq_ofNat_of_zero_le (show 0 ≤ x by omega)
        have HPR := hide hpr
        clear hpr
        cases hon : on x with
        | true =>
          have ht := HTW.out true (bk on l k x) hon rfl
          have hb := HB2.out true hon
          have HT := hide ht
          have HB := hide hb
          have HON := hide hon
          clear ht hb hon
          go_wp2_with (first
            | (go_at_call 52; refine (isPage_any HP1.out _).mono ?_; rw [HPR.out]; rintro e w2 ⟨rfl, k2, rfl⟩)
            | (go_at_call 53; refine (mhas_nat (HP1.out.m.drewN _) _ x rfl true HON.out).mono ?_; rintro e w3 ⟨rfl, k3, rfl⟩))
          go_roundw
          case rel => exact ⟨k + 1, by omega, by go_num, by rw [HT.out]; simp [twv], HIN2.out hx1 hx2, HKR.out.drewN _, by rw [HB.out]; exact HBK.out.drewN _⟩
          case measure => simp [intOf]; omega
        | false =>
          cases hbv : bk on l k x with
          | true =>
            have ht := HTW.out false true hon hbv
            have hb := HB2.out false hon
            have hbs := put_self hbv
            have HT := hide ht
            have HB := hide hb
            have HON := hide hon
            have HBV := hide hbv
            have HBS := hide hbs
            clear ht hb hon hbv hbs
            go_wp2_with (first
              | (go_at_call 52; refine (isPage_any HP1.out _).mono ?_; rw [HPR.out]; rintro e w2 ⟨rfl, k2, rfl⟩)
              | (go_at_call 53; refine (mhas_nat (HP1.out.m.drewN _) _ x rfl false HON.out).mono ?_; rintro e w3 ⟨rfl, k3, rfl⟩)
              | (go_at_call 43; refine (mset_put (HBK.out.drewN _) _ x rfl (by omega) true HBV.out).mono ?_; rintro e w4 ⟨rfl, hm4, hk4⟩))
            go_roundw
            case rel => exact ⟨k + 1, by omega, by go_num, by rw [HT.out]; simp [twv], HIN2.out hx1 hx2, (HKR.out.drewN _).trans hk4 (by simp; omega), by rw [HB.out]; exact hm4⟩
            case measure => simp [intOf]; omega
          | false =>
            have ht := HTW.out false false hon hbv
            have hb := HB2.out false hon
            have HT := hide ht
            have HB := hide hb
            have HON := hide hon
            have HBV := hide hbv
            clear ht hb hon hbv
            go_wp2_with (first
              | (go_at_call 52; refine (isPage_any HP1.out _).mono ?_; rw [HPR.out]; rintro e w2 ⟨rfl, k2, rfl⟩)
              | (go_at_call 53; refine (mhas_nat (HP1.out.m.drewN _) _ x rfl false HON.out).mono ?_; rintro e w3 ⟨rfl, k3, rfl⟩)
              | (go_at_call 43; refine (mset_put (HBK.out.drewN _) _ x rfl (by omega) false HBV.out).mono ?_; rintro e w4 ⟨rfl, hm4, hk4⟩))
            go_roundw
            case rel => exact ⟨k + 1, by omega, by go_num, by rw [HT.out]; simp [twv], HIN2.out hx1 hx2, (HKR.out.drewN _).trans hk4 (by simp; omega), by rw [HB.out]; exact hm4⟩
            case measure => simp [intOf]; omega
      · have hpr : (decide ((S.data : Int) ≤ x) && decide (x < (S.pages : Int))) = false := by
          rw [Bool.and_eq_false_iff, decide_eq_false_iff_not, decide_eq_false_iff_not]; omega
        have HPR := hide hpr
        have HPG := hide hpg
        clear hpr hpg
        go_wp2_with (go_at_call 52; refine (isPage_any HP1.out _).mono ?_; rw [HPR.out]; rintro e w2 ⟨rfl, k2, rfl⟩)
        rw [HQ.out]
        exact ⟨(HKR.out.mono (by simp)).drewN _, .inl ⟨HMEM.out HPG.out, rfl, HP1.out.drewN _⟩⟩
    · have hkl : k = l.length := by omega
      subst hkl
      have hp1 := H.out.keep hkr (by simp) (by simp)
      cases htw : tw on l l.length with
      | true =>
        rw [show twv true = 51 from rfl]
        have HP1 := hide hp1
        have HKR := hide hkr
        have HTW := hide htw
        have HIN := hide hin
        clear hp1 hkr htw hin
        go_wp2
        rw [HQ.out]
        exact ⟨HKR.out.mono (by simp), .inr (.inl ⟨HIN.out, HTW.out, rfl, HP1.out⟩)⟩
      | false =>
        rw [show twv false = 0 from rfl]
        have HP1 := hide hp1
        have HKR := hide hkr
        have HTW := hide htw
        have HIN := hide hin
        clear hp1 hkr htw hin
        go_wp2
        go_loopw [43] (fun i w2 => ∃ k : Nat, k ≤ l.length ∧ i = .int .i64 k ∧ PoolAt w2 b wb cap S (pl on l k) ∧ Kp [b, wb] w w2) (fun i _ => l.length - (intOf i).toNat)
        case atStart => exact ⟨0, by omega, rfl, HP1.out, HKR.out.mono (by simp)⟩
        case round =>
          obtain ⟨wo, rfl⟩ : ∃ wo : World, wo = wr := ⟨_, rfl⟩
          obtain ⟨k, hk, rfl, hp2, hk2⟩ := hrel
          by_cases hlt : k < l.length
          · rcases HR.out with hnil | ⟨g, rfl, hrd⟩
            · subst hnil; simp at hlt
            have hb2 := hvb g rfl
            have hcell := hk2.cell (hrd k hlt) (by simp; omega)
            have hin3 := HIN.out k hlt
            have hpl : pl on l (k + 1) = put (pl on l k) (gi l k).toNat true := rfl
            generalize hx : gi l k = x at hcell hin3 hpl
            obtain ⟨x, rfl⟩ := Int.eq_ofNat_of_zero_le (show 0 ≤ x by omega)
            have hw2 := hp2.m.lt
            have HP2 := hide hp2
            have HKK := hide hk2
            have HPL := hide hpl
            clear hp2 hk2 hpl
            clear hrd hx
            go_wp2_with (go_at_call 43; refine (mset_put HP2.out.m _ x rfl (by omega) (pl on l k x) rfl).mono ?_; rintro e w4 ⟨rfl, hm4, hk4⟩)
            go_roundw
            case rel => exact ⟨k + 1, by omega, by go_num, by rw [HPL.out]; exact HP2.out.turn hm4 (by omega), HKK.out.trans' hk4⟩
            case measure => simp [intOf]; omega
          · have hkl : k = l.length := by omega
            subst hkl
            have HP2 := hide hp2
            have HKK := hide hk2
            clear hp2 hk2
            go_wp2
            rw [HQ.out]
            exact ⟨HKK.out, .inr (.inr ⟨HIN.out, HTW.out, rfl, HP2.out⟩)⟩
end
end Go.Proofs.Ytoghdhjeopcjkaa
