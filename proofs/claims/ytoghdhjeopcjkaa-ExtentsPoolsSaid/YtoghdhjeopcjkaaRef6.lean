/- The walk of the reference's Give. Conditions: the pool lies in memory (RefAt). -/
import Derived.Test.YtoghdhjeopcjkaaRef5
import Derived.Test.YtoghdhjeopcjkaaRefP
namespace Go.Proofs.Ytoghdhjeopcjkaa
open Go.RowKit Go.Deep

/-- A row of n marks of the call's own. -/
structure RowB (w : World) (nb n : Nat) (f : Nat → Bool) : Prop where
  row : ∃ c : Array Value, w.heap[nb]? = some (.cells c 4 (0, 0)) ∧ ∀ i, i < n → c[i]? = some (.bool (f i))
theorem RowB.keep {L : List Nat} {w w' : World} {nb n : Nat} {f : Nat → Bool} (h : RowB w nb n f) (k : Kp L w w') (h1 : nb ∉ L) : RowB w' nb n f := by
  obtain ⟨c, h3, h4⟩ := h.row
  exact ⟨⟨c, k.blk h3 h1, h4⟩⟩
theorem RowB.mark {w : World} {nb n : Nat} {f : Nat → Bool} (h : RowB w nb n f) {i : Nat} (hi : i < n) : w.cell? ⟨nb, i, none⟩ = some (.bool (f i)) := by
  obtain ⟨c, h3, h4⟩ := h.row
  rw [blk_cell h3]; exact h4 i hi
theorem RowB.f {w : World} {nb n : Nat} {f : Nat → Bool} (h : RowB w nb n f) (i : Nat) : w.frozen? ⟨nb, i, none⟩ = false := by obtain ⟨c, h3, _⟩ := h.row; exact blk_free h3 i
theorem RowB.lt {w : World} {nb n : Nat} {f : Nat → Bool} (h : RowB w nb n f) : nb < w.heap.size := by obtain ⟨c, h3, _⟩ := h.row; exact blk_lt h3
theorem RowB.turn {w : World} {nb n : Nat} {f : Nat → Bool} (h : RowB w nb n f) (i : Nat) (v : Bool) : RowB (w.setCell ⟨nb, i, none⟩ (.bool v)) nb n (put f i v) := by
  obtain ⟨c, h3, h4⟩ := h.row
  refine ⟨⟨_, blk_set h3 _, fun j hj => ?_⟩⟩
  by_cases e : j = i
  · subst e
    have hlt := (Array.getElem?_eq_some_iff.1 (h4 j hj)).1
    simp [hlt, put]
  · rw [Array.getElem?_setIfInBounds, if_neg (by omega), put_other _ e]; exact h4 j hj
theorem RowB.new {w : World} {nb n : Nat} (h : w.heap[nb]? = some (.cells (madeCells #[.bool false] n) 4 (0, 0))) : RowB w nb n (fun _ => false) := ⟨⟨_, h, fun _ hi => made_at _ _ _ hi⟩⟩

def RGivePost (S : Sh) (rb mb cap : Nat) (on : Nat → Bool) (l : List Int) (w : World) (e : Ending) (w' : World) : Prop :=
  Kp [mb] w w' ∧ ((¬ inTo S l l.length ∧ e = .returned (.int .i64 52) ∧ RefAt w' rb mb cap S on) ∨ (inTo S l l.length ∧ tw on l l.length = true ∧ e = .returned (.int .i64 51) ∧ RefAt w' rb mb cap S on) ∨
    (inTo S l l.length ∧ tw on l l.length = false ∧ e = .returned (.int .i64 0) ∧ RefAt w' rb mb cap S (pl on l l.length)))
theorem tw_after {on : Nat → Bool} {l : List Int} {k : Nat} (hk : k ≤ l.length) (h : tw on l k = true) : tw on l l.length = true := by
  have := tw_mono h (l.length - k)
  rwa [show k + (l.length - k) = l.length by omega] at this

section
variable {w w' : World} {rb mb cap : Nat} {S : Sh} {on : Nat → Bool}
set_option maxHeartbeats 4000000 in
set_option maxRecDepth 100000 in
theorem rGive_any (h : RefAt w rb mb cap S on) (v : Value) (l : List Int) (hv : RdI w v l) (hvb : ∀ x, v.ownBlock = some x → x ≠ rb ∧ x ≠ mb ∧ x < w.heap.size) (hlen : l.length ≤ 140737488355328) :
    Calls Try.prog 59 #[.pointer (some ⟨rb, 0, none⟩), v] w (RGivePost S rb mb cap on l w) := by
  obtain ⟨a, lc, rfl, hrd⟩ := hv
  obtain ⟨Q, hQ⟩ : ∃ Q, Q = RGivePost S rb mb cap on l w := ⟨_, rfl⟩
  rw [← hQ]
  obtain ⟨c0, c1, c2, c3, c4⟩ := h.cells
  have o1 := h.ok.p2
  have hbl := h.lt
  have hml := h.mlt
  have hne := h.ne
  have H := hide h
  have HQ := hide hQ
  have HR := hide hrd
  clear h hQ hrd
  clear c1 c2 c3
  go_enter Try.func59, Try.ntmps59
  go_wp2
  go_loop [5] (fun i => ∃ k : Nat, k ≤ l.length ∧ i = .int .i64 k ∧ Hid (inTo S l k)) (fun i => l.length - (intOf i).toNat)
  case atStart => exact ⟨0, by omega, rfl, fun j hj => by omega⟩
  case round =>
    obtain ⟨k, hk, rfl, HIN⟩ := hrel
    by_cases hlt : k < l.length
    · rcases HR.out with hnil | ⟨g, rfl, hrd⟩
      · subst hnil; simp at hlt
      have hcell := hrd k hlt
      have hmem : ∀ x, gi l k = x → ¬ ((S.data : Int) ≤ x ∧ x < S.pages) → ¬ inTo S l l.length := fun x hx h1 h2 => h1 (by have := h2 k hlt; rw [hx] at this; exact this)
      have hin2 : ∀ x, gi l k = x → (S.data : Int) ≤ x → x < S.pages → inTo S l (k + 1) := fun x hx h1 h2 j hj => by
        by_cases e : j = k
        · subst e; rw [hx]; exact ⟨h1, h2⟩
        · exact HIN.out j (by omega)
      generalize hx : gi l k = x at hcell
      have hmem := hmem x hx
      have hin2 := hin2 x hx
      have i1 : (0 : Int) ≤ (k : Int) := by omega
      have i2 : (k : Int) < (l.length : Int) := by omega
      have HMEM := hide hmem
      have HIN2 := hide hin2
      clear hmem hin2
      clear hrd hx
      by_cases hpg : (S.data : Int) ≤ x ∧ x < S.pages
      · have hpr : (decide ((S.data : Int) ≤ x) && decide (x < (S.pages : Int))) = true := by simp; exact hpg
        obtain ⟨hx1, hx2⟩ := hpg
        have HPR := hide hpr
        clear hpr
        go_wp2_with (go_at_call 68; refine (rin_any H.out _).mono ?_; rw [HPR.out]; rintro e w2 ⟨rfl, rfl⟩)
        go_round
        case rel => exact ⟨k + 1, by omega, by go_num, HIN2.out hx1 hx2⟩
        case measure => simp [intOf]; omega
      · have hpr : (decide ((S.data : Int) ≤ x) && decide (x < (S.pages : Int))) = false := by
          rw [Bool.and_eq_false_iff, decide_eq_false_iff_not, decide_eq_false_iff_not]; omega
        have HPR := hide hpr
        have HPG := hide hpg
        clear hpr hpg
        go_wp2_with (go_at_call 68; refine (rin_any H.out _).mono ?_; rw [HPR.out]; rintro e w2 ⟨rfl, rfl⟩)
        rw [HQ.out]
        exact ⟨Kp.refl _ _, .inl ⟨HMEM.out HPG.out, rfl, H.out⟩⟩
    · have hkl : k = l.length := by omega
      subst hkl
      have hmk := run_make_row' (P := Try.prog) 40 4 (.bool false) 1 Try.underlying40 Try.info_bool rfl .i64 .i64 S.pages (by omega) (by omega)
      go_wp2
      have hro : RowB (w.alloc (.cells (madeCells #[.bool false] S.pages) 4)) w.heap.size S.pages (fun _ => false) := RowB.new (blk_new _ _)
      have hk1 : Kp [] w (w.alloc (.cells (madeCells #[.bool false] S.pages) 4)) := (Kp.refl _ _).alloc _
      generalize w.alloc (.cells (madeCells #[.bool false] S.pages) 4) = w1 at hro hk1 ⊢
      have hs1 := hk1.size
      have HRO := hide hro
      have HK1 := hide hk1
      clear hro hk1
      clear hmk hlt hk
      go_loopw [8] (fun i wr => ∃ k : Nat, k ≤ l.length ∧ i = .int .i64 k ∧ Hid (tw on l k = false) ∧ RowB wr w.heap.size S.pages (bk on l k) ∧ Kp [w.heap.size] w1 wr) (fun i _ => l.length - (intOf i).toNat)
      case atStart => exact ⟨0, by omega, rfl, rfl, HRO.out, Kp.refl _ _⟩
      case round =>
        obtain ⟨k, hk, rfl, HTW, hro2, hk2⟩ := hrel
        have hkw : Kp [] w wr := HK1.out.trans hk2 (by simp)
        have hre := H.out.keep hkw (by simp) (by simp)
        obtain ⟨x0, x1, x2, x3, x4⟩ := hre.cells
        clear x0 x1 x2 x3
        by_cases hlt : k < l.length
        · rcases HR.out with hnil | ⟨g, rfl, hrd⟩
          · subst hnil; simp at hlt
          have hcell := hkw.cell (hrd k hlt) (by simp)
          have hin3 := HIN.out k hlt
          have htw : tw on l (k + 1) = (tw on l k || (on (gi l k).toNat || bk on l k (gi l k).toNat)) := rfl
          have hbk : bk on l (k + 1) = if on (gi l k).toNat then bk on l k else put (bk on l k) (gi l k).toNat true := rfl
          generalize hx : gi l k = x at hcell hin3 htw hbk
          obtain ⟨x, rfl⟩ := Int.eq_ofNat_of_zero_le (show 0 ≤ x by omega)
          simp only [Int.toNat_natCast] at htw hbk
          have m1 := hre.mark (i := x) (by omega)
          have m2 := hro2.mark (i := x) (by omega)
          have i1 : (0 : Int) ≤ (k : Int) := by omega
          have i2 : (k : Int) < (l.length : Int) := by omega
          have i3 : (0 : Int) ≤ (x : Int) := by omega
          have i4 : (x : Int) < (S.pages : Int) := by omega
          have hfz := hro2.f x
          rw [HTW.out] at htw
          cases ho : on x with
          | true =>
            rw [ho] at m1 htw
            have htl := tw_after (l := l) (k := k + 1) (by omega) htw
            have HTL := hide htl
            have HRE := hide hre
            have HKW := hide hkw
            have HON := hide ho
            clear htl hre hkw ho
            clear htw hbk hx hrd hro2 hk2
            go_wp2
            go_quiet (fail)
            go_wp2
            rw [HQ.out]
            exact ⟨(HKW.out.drewN _).mono (by simp), .inr (.inl ⟨HIN.out, HTL.out, rfl, HRE.out.keep ((Kp.refl [] _).drewN _) (by simp) (by simp)⟩)⟩
          | false =>
            cases hb : bk on l k x with
            | true =>
              rw [ho] at m1 htw
              rw [hb] at m2 htw
              have htl := tw_after (l := l) (k := k + 1) (by omega) htw
              have HTL := hide htl
              have HRE := hide hre
              have HKW := hide hkw
              have HON := hide ho
              have HBB := hide hb
              clear htl hre hkw ho hb
              clear htw hbk hx hrd hro2 hk2
              go_wp2
              go_quiet (fail)
              go_wp2
              rw [HQ.out]
              exact ⟨(HKW.out.drewN _).mono (by simp), .inr (.inl ⟨HIN.out, HTL.out, rfl, HRE.out.keep ((Kp.refl [] _).drewN _) (by simp) (by simp)⟩)⟩
            | false =>
              rw [ho] at m1 htw hbk
              rw [hb] at m2 htw
              simp only [Bool.false_eq_true, if_false] at hbk
              have hro3 := hro2.turn x true
              rw [← hbk] at hro3
              have HRE := hide hre
              have HKW := hide hkw
              have HON := hide ho
              have HBB := hide hb
              have HRO2 := hide hro2
              have HK2 := hide hk2
              have HBK := hide hbk
              have HTW2 := hide htw
              clear hre hkw ho hb hro2 hk2 hbk htw
              clear hx hrd hro3
              go_wp2
              go_quiet (fail)
              go_wp2
              go_roundw
              case rel => exact ⟨k + 1, by omega, by go_num, HTW2.out, by rw [HBK.out]; exact (HRO2.out.keep ((Kp.refl [] _).drewN _) (by simp)).turn x true, (HK2.out.drewN _).set (by simp) _⟩
              case measure => simp [intOf]; omega
        · have hkl : k = l.length := by omega
          subst hkl
          have HRE := hide hre
          have HKW := hide hkw
          clear hre hkw
          clear hro2 hk2 hlt hk
          go_wp2
          go_loopw [9] (fun i wr => ∃ k : Nat, k ≤ l.length ∧ i = .int .i64 k ∧ RefAt wr rb mb cap S (pl on l k) ∧ Kp [mb] w wr) (fun i _ => l.length - (intOf i).toNat)
          case atStart => exact ⟨0, by omega, rfl, HRE.out, HKW.out.mono (by simp)⟩
          case round =>
            obtain ⟨wo, rfl⟩ : ∃ wo : World, wo = wr := ⟨_, rfl⟩
            obtain ⟨k, hk, rfl, hre3, hk3⟩ := hrel
            obtain ⟨x0, x1, x2, x3, x5⟩ := hre3.cells
            clear x0 x1 x2 x3
            by_cases hlt : k < l.length
            · rcases HR.out with hnil | ⟨g, rfl, hrd⟩
              · subst hnil; simp at hlt
              have hgb := hvb g rfl
              have hcell := hk3.cell (hrd k hlt) (by simp; omega)
              have hin3 := HIN.out k hlt
              have hpl : pl on l (k + 1) = put (pl on l k) (gi l k).toNat true := rfl
              generalize hx : gi l k = x at hcell hin3 hpl
              obtain ⟨x, rfl⟩ := Int.eq_ofNat_of_zero_le (show 0 ≤ x by omega)
              simp only [Int.toNat_natCast] at hpl
              have m1 := hre3.mark (i := x) (by omega)
              have hfz := hre3.mf x
              have i1 : (0 : Int) ≤ (k : Int) := by omega
              have i2 : (k : Int) < (l.length : Int) := by omega
              have i3 : (0 : Int) ≤ (x : Int) := by omega
              have i4 : (x : Int) < (S.pages : Int) := by omega
              have HRE3 := hide hre3
              have HK3 := hide hk3
              have HPL := hide hpl
              clear hre3 hk3 hpl
              clear hrd hx
              go_wp2
              go_region_held3 (fun w' => w'.cell? ⟨rb, 4, none⟩ = some (.slice (some ⟨mb, 0, none⟩) S.pages cap) ∧ w'.cell? ⟨g, k, none⟩ = some (.int .i64 x))
                (first | exact ⟨x5, hcell⟩ | exact ⟨((Kp.refl [mb] _).set (p := ⟨mb, x, none⟩) (by simp) _).cell x5 (by simp; omega), ((Kp.refl [mb] _).set (p := ⟨mb, x, none⟩) (by simp) _).cell hcell (by simp; omega)⟩)
                (fail)
              go_wp2
              go_roundw
              case rel => exact ⟨k + 1, by omega, by go_num, by rw [HPL.out]; first | exact (HRE3.out.keep ((Kp.refl [] _).drew) (by simp) (by simp)).turn true (by omega) (by omega) | exact HRE3.out.turn true (by omega) (by omega), by first | exact (HK3.out.drew).set (by simp) _ | exact HK3.out.set (by simp) _⟩
              case measure => simp [intOf]; omega
            · have hkl : k = l.length := by omega
              subst hkl
              have HRE3 := hide hre3
              have HK3 := hide hk3
              clear hre3 hk3
              go_wp2
              rw [HQ.out]
              exact ⟨HK3.out, .inr (.inr ⟨HIN.out, HTW.out, rfl, HRE3.out⟩)⟩
end
end Go.Proofs.Ytoghdhjeopcjkaa
