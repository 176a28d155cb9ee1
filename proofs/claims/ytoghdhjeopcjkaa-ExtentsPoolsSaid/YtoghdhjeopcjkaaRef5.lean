/- The walk of the reference's Take. Conditions: the pool lies in memory (RefAt). -/
import Derived.Test.YtoghdhjeopcjkaaRef4
namespace Go.Proofs.Ytoghdhjeopcjkaa
open Go.RowKit Go.Deep

section
variable {w w' : World} {rb mb cap : Nat} {S : Sh} {on : Nat → Bool}
theorem rTake_range (h : RefAt w rb mb cap S on) (c n : Int) (hc : c < 0 ∨ (S.cores : Int) ≤ c ∨ n < 0) :
    Calls Try.prog 58 #[.pointer (some ⟨rb, 0, none⟩), .int .i64 c, .int .i64 n] w fun e w' => e = .returned (.tuple #[.slice none 0 0, .int .i64 52]) ∧ w = w' := by
  obtain ⟨c0, c1, c2, c3, c4⟩ := h.cells
  clear h c0 c1 c3 c4
  by_cases h0 : c < 0
  · have d1 : decide (c < 0) = true := by simpa using h0
    clear hc
    go_enter Try.func58, Try.ntmps58
    go_wp2
    go_ret2
    exact ⟨rfl, rfl⟩
  · have d1 : decide (c < 0) = false := by simpa using h0
    by_cases h1 : (S.cores : Int) ≤ c
    · have d2 : decide ((S.cores : Int) ≤ c) = true := by simpa using h1
      clear hc
      go_enter Try.func58, Try.ntmps58
      go_wp2
      go_ret2
      exact ⟨rfl, rfl⟩
    · have d2 : decide ((S.cores : Int) ≤ c) = false := by simpa using h1
      have h2 : n < 0 := by omega
      have d3 : decide (n < 0) = true := by simpa using h2
      clear hc
      go_enter Try.func58, Try.ntmps58
      go_wp2
      go_ret2
      exact ⟨rfl, rfl⟩
theorem rTake_full (h : RefAt w rb mb cap S on) (c n : Int) (hc1 : 0 ≤ c) (hc2 : c < S.cores) (hn0 : 0 ≤ n) (hn : (cnt on S.pages : Int) < n) :
    Calls Try.prog 58 #[.pointer (some ⟨rb, 0, none⟩), .int .i64 c, .int .i64 n] w fun e w' => e = .returned (.tuple #[.slice none 0 0, .int .i64 50]) ∧ w = w' := by
  obtain ⟨c0, c1, c2, c3, c4⟩ := h.cells
  have d1 : decide (c < 0) = false := by simp; omega
  have d2 : decide ((S.cores : Int) ≤ c) = false := by simp; omega
  have d3 : decide (n < 0) = false := by simp; omega
  have d4 : decide ((cnt on S.pages : Int) < n) = true := by simp; omega
  have H := hide h
  clear h
  clear c0 c1 c3 c4
  go_enter Try.func58, Try.ntmps58
  go_wp2_with (go_at_call 65; refine (rFree_any H.out).mono ?_; rintro e w' ⟨rfl, rfl⟩)
  go_ret2
  exact ⟨rfl, rfl⟩

set_option maxHeartbeats 4000000 in
set_option maxRecDepth 100000 in
theorem rTake_ok (h : RefAt w rb mb cap S on) (c n : Int) (c' n' : Nat) (hcc : c = c') (hnn : n = n') (hc : c' < S.cores) (hn : n' ≤ cnt on S.pages) :
    Calls Try.prog 58 #[.pointer (some ⟨rb, 0, none⟩), .int .i64 c, .int .i64 n] w fun e w' => ∃ v, e = .returned (.tuple #[v, .int .i64 0]) ∧
      Own w' w.heap.size v (spansOf ((order S on c').take n')) ∧ RefAt w' rb mb cap S (minus on ((order S on c').take n')) ∧ Kp [mb] w w' := by
  subst hcc; subst hnn
  obtain ⟨c0, c1, c2, c3, c4⟩ := h.cells
  have ok := h.ok
  have o1 := ok.p2; have o2 := ok.c1; have o3 := ok.c2
  have hcl := cnt_le on S.pages
  have hn2 : n' ≤ 1024 := by omega
  have d1 : decide ((c' : Int) < 0) = false := by simp
  have d2 : decide ((S.cores : Int) ≤ (c' : Int)) = false := by simp; omega
  have d2' : decide (S.cores ≤ c') = false := by simp; omega
  have d3 : decide ((n' : Int) < 0) = false := by simp
  have d4 : decide ((cnt on S.pages : Int) < (n' : Int)) = false := by simp; omega
  have d4' : decide (cnt on S.pages < n') = false := by simp; omega
  have hbl := h.lt
  have hml := h.mlt
  have hne := h.ne
  have H := hide h
  have OK := hide ok
  clear h ok
  clear c0 c1 c3 c4
  go_enter Try.func58, Try.ntmps58
  go_wp2_with (go_at_call 65; refine (rFree_any H.out).mono ?_; rintro e w' ⟨rfl, rfl⟩)
  clear d1 d2 d2' d3 d4 d4' c2
  go_loopw [9, 10, 11] (fun l got i wr => ∃ k g : Nat, k ≤ S.cores ∧ i = .int .i64 k ∧ got = .int .i64 g ∧ Hid (g = ((doneTo S on c' k).take n').length) ∧ g ≤ n' ∧
      Own wr w.heap.size l (spansOf ((doneTo S on c' k).take n')) ∧ RefAt wr rb mb cap S (minus on ((doneTo S on c' k).take n')) ∧ Kp [mb] w wr) (fun _ _ i _ => S.cores - (intOf i).toNat)
  case atStart => exact ⟨0, 0, by omega, rfl, rfl, by simp [doneTo, Hid], by omega, by rw [show (doneTo S on c' 0).take n' = [] from by simp [doneTo]]; exact Own.nil _ _, by have := H.out; rw [show (doneTo S on c' 0).take n' = [] from by simp [doneTo], minus_nil]; exact this, Kp.refl _ _⟩
  case round =>
    obtain ⟨wo, rfl⟩ : ∃ wo : World, wo = wr := ⟨_, rfl⟩
    obtain ⟨k, g, hk, rfl, rfl, HGE, hgn, hown, href, hkp⟩ := hrel
    obtain ⟨x0, x1, x2, x3, x4⟩ := href.cells
    have hszo := hkp.size
    by_cases hlt : k < S.cores
    · have ha : (c' + k) % S.cores < S.cores := Nat.mod_lt _ (by omega)
      have hcast : ((c' : Int) + (k : Int)) % (S.cores : Int) = (((c' + k) % S.cores : Nat) : Int) := by simp
      obtain ⟨a, haa⟩ : ∃ a, (c' + k) % S.cores = a := ⟨_, rfl⟩
      rw [haa] at ha hcast
      have hlm := Sh.lo_lt OK.out a
      have hlb := Sh.lo_bd OK.out (a + 1) (by omega)
      have hld := Sh.lo_mono (S := S) 0 a (by omega)
      rw [Sh.lo_zero] at hld
      obtain ⟨F, hF⟩ : ∃ F, S.lo a = F := ⟨_, rfl⟩
      obtain ⟨C, hC⟩ : ∃ C, S.lo (a + 1) = F + C := ⟨S.lo (a + 1) - F, by omega⟩
      rw [hF] at hlm hld
      rw [hC] at hlm hlb
      have hF2 : S.lo ((c' + k) % S.cores) = F := by rw [haa]; exact hF
      have hC2 : S.lo ((c' + k) % S.cores + 1) = F + C := by rw [haa]; exact hC
      have hlts := hown.lt
      have HO := hide hown
      have HRF := hide href
      have HKP := hide hkp
      have HAA := hide haa
      have HF := hide hF
      have HC := hide hC
      have HF2 := hide hF2
      have HC2 := hide hC2
      have HLT := hide hlts
      clear hown href hkp haa hF hC hF2 hC2 hlts
      clear x0 x1 x3
      go_wp2_with (go_at_call 66; refine (rArea_in HRF.out _ a F C (by first | exact hcast | rfl) ha HF.out HC.out).mono ?_; rintro e y1 ⟨rfl, hky1⟩; have HKY1 := hide hky1; clear hky1)
      have hkx : Kp [] wo (y1.alloc (.cells #[.int .i64 F, .int .i64 C] 31)) := HKY1.out.alloc _
      have hzx := blk_new y1 (.cells #[.int .i64 F, .int .i64 C] 31)
      have hsy := HKY1.out.size
      generalize y1.alloc (.cells #[.int .i64 F, .int .i64 C] 31) = wa at hkx hzx ⊢
      have hsw := hkx.size
      have hzl := blk_lt hzx
      have HKX := hide hkx
      have HZX := hide hzx
      clear hkx hzx
      clear hcast x2 x4
      go_loopw [9, 10, 13] (fun l got i wr => ∃ t g : Nat, t ≤ C ∧ i = .int .i64 ((F + t : Nat) : Int) ∧ got = .int .i64 g ∧ Hid (g = (tkn S on c' n' k F t).length) ∧ g ≤ n' ∧
          Own wr w.heap.size l (spansOf (tkn S on c' n' k F t)) ∧ RefAt wr rb mb cap S (minus on (tkn S on c' n' k F t)) ∧ Kp [mb] w wr ∧ (∀ x, l.ownBlock = some x → x ≠ y1.heap.size) ∧ wa.heap.size ≤ wr.heap.size ∧
          wr.heap[y1.heap.size]? = some (.cells #[.int .i64 F, .int .i64 C] 31 (0, 0))) (fun _ _ i _ => F + C - (intOf i).toNat)
      case atStart => exact ⟨0, g, by omega, by go_num, rfl, by rw [tkn_zero]; exact HGE, hgn, by rw [tkn_zero]; exact HO.out.keep HKX.out (by simp), by rw [tkn_zero]; exact HRF.out.keep HKX.out (by simp) (by simp), HKP.out.trans HKX.out (by simp), fun x hx => by have := (HLT.out x hx).2; omega, Nat.le_refl _, HZX.out⟩
      case round =>
        obtain ⟨wi, rfl⟩ : ∃ wi : World, wi = wr := ⟨_, rfl⟩
        obtain ⟨t, g2, ht, rfl, rfl, HG2, hg2n, hown2, href2, hkp2, hnb, hsz2, hz2⟩ := hrel
        obtain ⟨x0, x1, x2, x3, x4⟩ := href2.cells
        obtain ⟨z0, z1⟩ := blk2 hz2
        have hTl := tkn_length S on c' n' k F t
        clear x0 x1 x2 x3
        by_cases htc : t < C
        · have e1 : ((F + t : Nat) : Int) < (F : Int) + (C : Int) := by omega
          have dlt : decide ((F : Int) + (t : Int) < (F : Int) + (C : Int)) = true := by simp; omega
          have dlt' : decide (F + t < F + C) = true := by simp; omega
          have i1 : (0 : Int) ≤ (F : Int) + (t : Int) := by omega
          have i2 : (F : Int) + (t : Int) < (S.pages : Int) := by omega
          by_cases hg : g2 < n'
          · have dg : decide ((g2 : Int) < (n' : Int)) = true := by simp; omega
            have dg' : decide (g2 < n') = true := by simp; omega
            have hmk := href2.mark (i := F + t) (by omega)
            have hnew := tkn_new (on := on) (n := n') hlt HF2.out HC2.out htc
            have hmo : minus on (tkn S on c' n' k F t) (F + t) = on (F + t) := by simp [minus, hnew]
            rw [hmo] at hmk
            cases ho : on (F + t) with
            | true =>
              rw [ho] at hmk
              have hst := tkn_take (S := S) (c := c') (n := n') (k := k) ho (by have := HG2.out; omega)
              have hin := tkn_in (on := on) (n := n') OK.out HF2.out HC2.out ht
              have hfz := href2.mf (F + t)
              have hrt := href2.turn (i := F + t) false (by omega) (by omega)
              rw [← minus_snoc, ← hst] at hrt
              have hks : Kp [mb] wi (wi.setCell ⟨mb, F + t, none⟩ (.bool false)) := (Kp.refl _ _).set (by simp) _
              have hlt2 := hown2.lt
              have hos := hown2.keep hks (fun x hx => by have := (hlt2 x hx).1; simp; omega)
              obtain ⟨l2, hl2⟩ : ∃ l2, l2 = u9 := ⟨_, rfl⟩
              have hz3 := hks.blk hz2 (by simp; omega)
              have hgl := HG2.out
              have HRT := hide hrt
              have HKS := hide hks
              have HOS := hide hos
              have HKP2 := hide hkp2
              have HST := hide hst
              have HIN := hide hin
              have HNB := hide hnb
              have HZ3 := hide hz3
              have HLT2 := hide hlt2
              clear hrt hks hos hkp2 hst hin hnb hz3 hlt2
              clear hnew hmo hown2 hl2 l2 hgl hz2
              have hpl : ((F + t : Nat) : Int) = (F : Int) + (t : Int) := by omega
              have hjo := join_any HOS.out ((F : Int) + (t : Int)) (by omega) (spansOf_bd fun i hi => by have := HIN.out i hi; omega) (by have := spansOf_length (tkn S on c' n' k F t); omega) (by simp [World.setCell]; omega)
              have HJO := hide hjo
              have HPL := hide hpl
              clear hjo hpl
              go_wp2_with fail
              refine HJO.out.mono ?_
              rintro e y4 ⟨v4, rfl, ho4, hk4, hb4⟩
              rw [← HPL.out, ← spansOf_snoc, ← HST.out] at ho4
              have hs4 : wi.heap.size ≤ y4.heap.size := by have := hk4.size; simpa [World.setCell] using this
              have hr4 := HRT.out.keep hk4 (fun hx => by simp at hx; have := (HLT2.out _ hx).1; omega) (fun hx => by simp at hx; have := (HLT2.out _ hx).1; omega)
              have hkw4 : Kp [mb] w y4 := (HKP2.out.trans' HKS.out).trans hk4 (fun x hx => by simp at hx; exact .inr (HLT2.out _ hx).1)
              have hz4 := hk4.blk HZ3.out (fun hx => by simp at hx; exact HNB.out _ hx rfl)
              have hnb4 : ∀ x, v4.ownBlock = some x → x ≠ y1.heap.size := fun x hx => by
                rcases hb4 with hb4 | hb4
                · exact HNB.out x (hb4 ▸ hx)
                · have h5 : wi.heap.size ≤ x := by have := hb4 x hx; simpa [World.setCell] using this
                  omega
              have hgs : Hid (g2 + 1 = (tkn S on c' n' k F (t + 1)).length) := by unfold Hid; rw [HST.out, List.length_append, List.length_singleton, ← HG2.out]
              have HO4 := hide ho4
              have HR4 := hide hr4
              have HKW4 := hide hkw4
              have HZ4 := hide hz4
              have HNB4 := hide hnb4
              clear ho4 hr4 hkw4 hz4 hnb4
              clear hk4 hb4
              go_wp2_with fail
              go_roundw
              case rel => exact ⟨t + 1, g2 + 1, by omega, by go_num, by go_num, hgs, by omega, HO4.out, HR4.out, HKW4.out, HNB4.out, by omega, HZ4.out⟩
              case measure => simp [intOf]; omega
            | false =>
              rw [ho] at hmk
              have hst := tkn_skip (S := S) (c := c') (n := n') (k := k) (F := F) (t := t) (.inl ho)
              have HST := hide hst
              have HO2 := hide hown2
              have HR2 := hide href2
              have HKP2 := hide hkp2
              have HNB := hide hnb
              have HZ2 := hide hz2
              have HON := hide ho
              clear hst hown2 href2 hkp2 hnb hz2 ho
              clear hnew hmo
              go_wp2_with fail
              go_roundw
              case rel => exact ⟨t + 1, g2, by omega, by go_num, rfl, by rw [HST.out]; exact HG2, hg2n, by rw [HST.out]; exact HO2.out, by rw [HST.out]; exact HR2.out, HKP2.out, HNB.out, hsz2, HZ2.out⟩
              case measure => simp [intOf]; omega
          · have dg : decide ((g2 : Int) < (n' : Int)) = false := by simp; omega
            have dg' : decide (g2 < n') = false := by simp; omega
            have hst := tkn_skip (S := S) (on := on) (c := c') (n := n') (k := k) (F := F) (t := t) (.inr (by have := HG2.out; omega))
            have HST := hide hst
            have HO2 := hide hown2
            have HR2 := hide href2
            have HKP2 := hide hkp2
            have HNB := hide hnb
            have HZ2 := hide hz2
            clear hst hown2 href2 hkp2 hnb hz2
            go_wp2_with fail
            go_roundw
            case rel => exact ⟨t + 1, g2, by omega, by go_num, rfl, by rw [HST.out]; exact HG2, hg2n, by rw [HST.out]; exact HO2.out, by rw [HST.out]; exact HR2.out, HKP2.out, HNB.out, hsz2, HZ2.out⟩
            case measure => simp [intOf]; omega
        · have htC : t = C := by omega
          subst htC
          have dlt : decide ((F : Int) + (t : Int) < (F : Int) + (t : Int)) = false := by simp
          have dlt' : decide (F + t < F + t) = false := by simp
          have hall := tkn_all (on := on) (n := n') HF2.out HC2.out
          rw [hall] at HG2 hown2 href2
          have HO2 := hide hown2
          have HR2 := hide href2
          have HKP2 := hide hkp2
          clear hown2 href2 hkp2
          clear hnb hz2 hall
          go_wp2_with fail
          go_roundw
          case rel => exact ⟨k + 1, g2, by omega, by go_num, rfl, HG2, hg2n, HO2.out, HR2.out, HKP2.out⟩
          case measure => simp [intOf]; omega
    · have hkc : k = S.cores := by omega
      subst hkc
      have HO := hide hown
      have HRF := hide href
      have HKP := hide hkp
      clear hown href hkp
      clear x0 x1 x3 x4
      go_wp2_with fail
      go_ret2
      exact ⟨_, rfl, HO.out, HRF.out, HKP.out⟩
end
end Go.Proofs.Ytoghdhjeopcjkaa
