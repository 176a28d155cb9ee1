/- The walk of the laws' Book.some. Conditions: the book lies in memory (BookAt). -/
import Derived.Test.YtoghdhjeopcjkaaBook
namespace Go.Proofs.Ytoghdhjeopcjkaa
open Go.RowKit

/-- A list of pages as ints. -/
def nis (R : List Nat) : List Int := R.map fun (x : Nat) => (x : Int)
theorem nis_append (A B : List Nat) : nis (A ++ B) = nis A ++ nis B := by simp [nis]
theorem nis_length (A : List Nat) : (nis A).length = A.length := by simp [nis]
theorem minus_snoc (held : Nat → Bool) (R : List Nat) (p : Nat) : minus held (R ++ [p]) = put (minus held R) p false := by
  funext i
  by_cases e : i = p
  · subst e; simp [minus, put]
  · simp only [minus, put, if_neg e]
    congr 2
    rw [Bool.eq_iff_iff]
    simp [e]

section
variable {w : World} {bb hb : Nat} {S : Sh} {held : Nat → Bool}
set_option maxHeartbeats 4000000 in
set_option maxRecDepth 100000 in
theorem some_ok (h : BookAt w bb hb S S.pages held (cnt held S.pages)) (ok : S.Ok) (n a : Int) (n' a' : Nat) (hn : n = n') (ha : a = a') (hn2 : n' ≤ 4096) (ha2 : a' ≤ 4096) :
    Calls Try.prog 25 #[.pointer (some ⟨bb, 0, none⟩), .int .i64 n, .int .i64 a] w fun e w' => ∃ v, e = .returned v ∧ OwnI w' w.heap.size v (nis (someTo S held a' n' (S.pages - S.data))) ∧
      BookAt w' bb hb S S.pages (minus held (someTo S held a' n' (S.pages - S.data))) (cnt (minus held (someTo S held a' n' (S.pages - S.data))) S.pages) ∧ Kp [bb, hb] w w' := by
  subst hn; subst ha
  obtain ⟨D, hD⟩ : ∃ D, S.pages - S.data = D := ⟨_, rfl⟩
  have o1 := ok.p2
  have o2 := ok.d2
  have hD8 : 8 ≤ D := by omega
  have hD2 : D ≤ 1024 := by omega
  have hDi : IntKind.i64.wrap ((S.pages : Int) - (S.data : Int)) = (D : Int) := by rw [IntKind.wrap_i64]; omega
  obtain ⟨b0, b2, b3, b4, b5⟩ := h.cells
  have hbl := h.lt
  have hhl := h.hlt
  have hne := h.ne
  rw [hD]
  have H := hide h
  have OK := hide ok
  have HD := hide hD
  clear h ok hD
  go_enter Try.func25, Try.ntmps25
  go_wp2
  go_quiet (fail)
  go_wp2
  clear hDi
  go_loopw [7, 9] (fun l i wr => ∃ k : Nat, k ≤ D ∧ i = .int .i64 k ∧ OwnI wr w.heap.size l (nis (someTo S held a' n' k)) ∧ BookAt wr bb hb S S.pages (minus held (someTo S held a' n' k)) (cnt (minus held (someTo S held a' n' k)) S.pages) ∧ Kp [bb, hb] w wr) (fun _ i _ => D - (intOf i).toNat)
  case atStart => exact ⟨0, by omega, rfl, by simp only [someTo]; exact OwnI.nil _ _, by simp only [someTo, minus_nil]; exact H.out.drewN _, (Kp.refl _ _).drewN _⟩
  case round =>
    obtain ⟨k, hk, rfl, hown, hbk, hkp⟩ := hrel
    obtain ⟨la, lc, hv⟩ := hown.form
    rw [nis_length] at hv
    have hll := some_length S held a' n' k
    by_cases hlt : k < D
    · have hkD : decide (k < D) = true := by simp; omega
      by_cases hln : (someTo S held a' n' k).length < n'
      · have hpn := some_new (S := S) (held := held) (a := a') (n := n') (k := k) (by rw [HD.out]; exact hlt)
        have hpi := cand_in OK.out a' k
        have hsucc : someTo S held a' n' (k + 1) = if held (cand S a' k) then someTo S held a' n' k ++ [cand S a' k] else someTo S held a' n' k := by simp only [someTo]; simp [hln]
        have hcd : cand S a' k = S.data + (a' + k) % D := by unfold cand; rw [HD.out]
        have hold : minus held (someTo S held a' n' k) (cand S a' k) = held (cand S a' k) := by simp [minus, hpn]
        obtain ⟨s, hs⟩ : ∃ s, a' + k = s := ⟨_, rfl⟩
        obtain ⟨q, hq⟩ : ∃ q, s % D = q := ⟨_, rfl⟩
        rw [hs, hq] at hcd
        generalize hp : cand S a' k = p at *
        generalize hR : someTo S held a' n' k = R at *
        have e1 : IntKind.i64.wrap ((a' : Int) + (k : Int)) = (s : Int) := by rw [IntKind.wrap_i64]; omega
        have e2 : (s : Int).tmod (D : Int) = (q : Int) := by rw [← hq]; simp [Int.tmod_eq_emod]
        have e2' : (s : Int) % (D : Int) = (q : Int) := by rw [← hq]; simp
        have hq2 := Nat.mod_lt s (show D > 0 by omega)
        rw [hq] at hq2
        have e3 : IntKind.i64.wrap ((S.data : Int) + (q : Int)) = (p : Int) := by rw [IntKind.wrap_i64]; omega
        obtain ⟨y0, y2, y3, y4, y5⟩ := hbk.cells
        have hmk := hbk.mark (i := p) (by omega)
        rw [hold] at hmk
        have hbf := hbk.f 5
        have hhf := hbk.hf p
        have hwr := hkp.size
        have hd2 : decide (R.length < n') = true := by simp; omega
        have hcn := hbk.lt
        have hbn : ∀ x, (Value.slice la R.length lc).ownBlock = some x → x ∉ [bb, hb] := fun x hx => by
          rw [← hv] at hx
          have := hown.lt x hx
          simp; omega
        have hmle := cnt_le (minus held R) S.pages
        subst hv
        have HBN := hide hbn
        have HOWN := hide hown
        have HBK := hide hbk
        have HKP := hide hkp
        have HSU := hide hsucc
        have HOLD := hide hold
        have HCD := hide hcd
        have HS := hide hs
        have HQ := hide hq
        have HP := hide hp
        have HR := hide hR
        have HPN := hide hpn
        clear hbn hown hbk hkp hsucc hold hcd hs hq hp hR hpn
        cases hh : held p with
        | true =>
          rw [hh] at hmk
          have hcp := cnt_put_off (on := minus held R) (i := p) (n := S.pages) (by omega) (by rw [HOLD.out, hh])
          have hm1 : 1 ≤ cnt (minus held R) S.pages := by omega
          generalize hM : cnt (minus held R) S.pages = M at y5 hm1 hmle hcp
          have HH := hide hh
          have HCP := hide hcp
          have HM := hide hM
          clear hh hcp hM
          go_wp2
          go_quiet (fail)
          go_wp2_with (at_builtin; refine app_int rfl _ _ rfl w.heap.size (.slice la R.length lc) (nis R) rfl (HOWN.out.keep (((((Kp.refl [bb, hb] _).drewN _).set (p := ⟨hb, p, none⟩) (by simp) _).set (p := ⟨bb, 5, none⟩) (by simp) _).alloc _) HBN.out) _ (p : Int) _ rfl (blk_new' (by simp) _) (by rw [nis_length]; omega) (by simp; omega) ?_; intro v' w6 hown6 hgr hwh)
          go_roundw
          case rel =>
            have k5 : Kp [bb, hb] wr (((wr.drewN nq).setCell ⟨hb, p, none⟩ (.bool false)).setCell ⟨bb, 5, none⟩ (.int .i64 ((M : Int) - 1))) := (((Kp.refl [bb, hb] _).drewN _).set (p := ⟨hb, p, none⟩) (by simp) _).set (p := ⟨bb, 5, none⟩) (by simp) _
            have k6 := (Kp.alloc (Kp.refl (Value.ownBlock (.slice la R.length lc)).toList _) _).grown hgr (fun x hx => .inl (by rw [hx]; simp))
            have hM2 : ((M : Int) - 1) = ((cnt (put (minus held R) p false) S.pages : Nat) : Int) := by have := HCP.out; omega
            have hb7 := (HBK.out.drewN nq).turn (i := p) false hM2
            refine ⟨k + 1, by omega, by go_num, by rw [HSU.out, HH.out, if_pos rfl, nis_append]; exact hown6, ?_, (HKP.out.trans' k5).trans k6 ?_⟩
            · rw [HSU.out, HH.out, if_pos rfl, minus_snoc]
              refine hb7.keep k6 (fun hx => ?_) (fun hx => ?_)
              · simp at hx; exact HBN.out _ hx (by simp)
              · simp at hx; exact HBN.out _ hx (by simp)
            · intro x hx
              simp at hx
              exact .inr (HOWN.out.lt x hx).1
          case measure => simp [intOf]; omega
        | false =>
          rw [hh] at hmk
          have HH := hide hh
          clear hh
          go_wp2
          go_quiet (fail)
          go_wp2
          go_roundw
          case rel => exact ⟨k + 1, by omega, by go_num, by rw [HSU.out, HH.out]; exact HOWN.out.keep ((Kp.refl [] _).drewN _) (by simp), by rw [HSU.out, HH.out]; exact HBK.out.drewN _, HKP.out.drewN _⟩
          case measure => simp [intOf]; omega
      · have hd2 : decide ((someTo S held a' n' k).length < n') = false := by simp; omega
        have hst := some_stop hln (D - k)
        rw [show k + (D - k) = D by omega] at hst
        generalize hR : someTo S held a' n' k = R at *
        subst hv
        have HOWN := hide hown
        have HBK := hide hbk
        have HKP := hide hkp
        have HST := hide hst
        clear hown hbk hkp hst
        clear hR hln
        go_wp2
        go_ret
        exact ⟨_, rfl, by rw [HST.out]; exact HOWN.out, by rw [HST.out]; exact HBK.out, HKP.out⟩
    · have hkD : k = D := by omega
      subst hkD
      subst hv
      have HOWN := hide hown
      have HBK := hide hbk
      have HKP := hide hkp
      clear hown hbk hkp
      clear hlt
      have hdk : decide (k < k) = false := by simp
      go_wp2
      go_ret
      exact ⟨_, rfl, HOWN.out, HBK.out, HKP.out⟩
end
end Go.Proofs.Ytoghdhjeopcjkaa
