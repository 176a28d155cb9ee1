/- The walks of the laws' small helpers: copySpans, sameSpans, count, copyInts, sameInts. Conditions: the slices are read as told. -/
import Derived.Test.YtoghdhjeopcjkaaPlayed
import Derived.Test.YtoghdhjeopcjkaaAreas
namespace Go.Proofs.Ytoghdhjeopcjkaa
open Go.RowKit

theorem flat_src {w : World} {v : Value} {l : Sps} (h : RdS w v l) (hnil : l = [] → ∃ g c, v = .slice (some ⟨g, 0, none⟩) 0 c ∨ v = .slice none 0 0) : Src w v l.length (flat l) := by
  obtain ⟨a, c, rfl, h | ⟨g, rfl, h⟩⟩ := h
  · subst h
    obtain ⟨g, c2, h | h⟩ := hnil rfl
    · rw [h]; exact ⟨_, _, rfl, .inr ⟨g, 0, rfl, fun j u hj => by simp [flat] at hj⟩⟩
    · rw [h]; exact ⟨_, _, rfl, .inl ⟨rfl, rfl, rfl, rfl⟩⟩
  · refine ⟨_, _, rfl, .inr ⟨g, 0, rfl, fun j u hj => ?_⟩⟩
    have hl := flat_length l
    have hjl : j < l.length * 2 := by
      rw [← hl]; exact (List.getElem?_eq_some_iff.1 hj).1
    have h2 := h (j / 2) (by omega)
    have h3 := flat_get l (j / 2) (by omega)
    rcases Nat.mod_two_eq_zero_or_one j with e | e
    · have e2 : j = j / 2 * 2 := by omega
      rw [← e2] at h2 h3
      rw [Nat.zero_add, h2.1, ← h3.1, hj]
    · have e2 : j = j / 2 * 2 + 1 := by omega
      rw [← e2] at h2 h3
      rw [Nat.zero_add, h2.2, ← h3.2, hj]
theorem Own.src {w : World} {base : Nat} {v : Value} {l : Sps} (h : Own w base v l) : Src w v l.length (flat l) := by
  refine flat_src h.rd fun hl => ?_
  subst hl
  rcases h.cases with ⟨h1, _⟩ | ⟨g, c, h1, _⟩
  · exact ⟨0, 0, .inr h1⟩
  · exact ⟨g, c, .inl h1⟩
theorem flat_one (l : Sps) : ∀ u ∈ flat l, u.oneCell' = true := by
  intro u hu
  simp only [flat, List.mem_flatMap] at hu
  obtain ⟨x, _, hx⟩ := hu
  simp at hx
  rcases hx with rfl | rfl <;> rfl

theorem copySpans_any {w : World} {v : Value} {l : Sps} (h : Src w v l.length (flat l)) (hlen : l.length ≤ 1099511627776) :
    Calls Try.prog 21 #[v] w fun e w' => ∃ v', e = .returned v' ∧ Own w' w.heap.size v' l ∧ Kp [] w w' := by
  obtain ⟨i0, hi0, hz0, hz1, hz2⟩ := info_parts Try.info_span
  have H := hide h
  go_enter Try.func21, Try.ntmps21
  go_wp2_with (at_builtin; refine wpl_append _ rfl _ _ 33 rfl w.heap.size 31 i0 (.agg #[.int .i64 0, .int .i64 0]) 2 16 Try.underlying33 hi0 hz0 hz1 hz2 rfl (by decide) (.slice none 0 0) 0 [] rfl (World.ownsRow_nil _ _ _ _) v l.length (flat l) rfl H.out (flat_length l) (flat_one l) (by unfold maxLen; omega) (by omega) (Nat.le_refl _) ?_; intro v' w1 hown1 hgr hwh)
  go_ret
  simp only [Nat.zero_add, List.nil_append] at hown1
  exact ⟨v', rfl, hown1, (Kp.refl [] w).grown hgr (fun k hk => by cases hk)⟩

set_option maxHeartbeats 1000000 in
theorem sameSpans_eq {w : World} {v1 v2 : Value} {l : Sps} (h1 : RdS w v1 l) (h2 : RdS w v2 l) (hlen : l.length ≤ 1099511627776) :
    Calls Try.prog 26 #[v1, v2] w fun e w' => e = .returned (.bool true) ∧ ∃ k, w' = w.drewN k := by
  obtain ⟨a1, c1, rfl, h1⟩ := h1
  obtain ⟨a2, c2, rfl, h2⟩ := h2
  have sn := span_neq
  generalize hn : l.length = n at *
  have H1 := hide h1
  have H2 := hide h2
  have HN := hide hn
  clear h1 h2 hn
  go_enter Try.func26, Try.ntmps26
  go_wp2
  go_loopw [5] (fun i wr => ∃ k : Nat, k ≤ n ∧ i = .int .i64 k ∧ ∃ m, wr = w.drewN m) (fun i _ => n - (intOf i).toNat)
  case atStart => exact ⟨0, by omega, rfl, 0, rfl⟩
  case round =>
    obtain ⟨k, hk, rfl, m, rfl⟩ := hrel
    by_cases hlt : k < n
    · rcases H1.out with e | ⟨g1, rfl, g⟩
      · have := HN.out; subst e; simp at this; omega
      rcases H2.out with e | ⟨g2, rfl, g'⟩
      · have := HN.out; subst e; simp at this; omega
      obtain ⟨q1, q2⟩ := g k hlt
      obtain ⟨q3, q4⟩ := g' k hlt
      generalize fr l k = f at q1 q3
      generalize ct l k = c at q2 q4
      clear g g'
      go_wp2
      go_quiet (fail)
      go_wp2
      go_roundw
      case rel => exact ⟨k + 1, by omega, by go_num, _, rfl⟩
      case measure => simp [intOf]; omega
    · go_wp2
      go_ret
      exact ⟨rfl, _, rfl⟩

/-- The pages of spans, counted. -/
def sumTo (l : Sps) : Nat → Int
  | 0 => 0
  | k + 1 => sumTo l k + ct l k
theorem sumTo_pages {l : Sps} (h : Pos l) (k : Nat) (hk : k ≤ l.length) : sumTo l k = ((pagesL (l.take k)).length : Int) := by
  induction k with
  | zero => simp [sumTo, pagesL]
  | succ k ih =>
    rw [pagesL_take_succ l k (by omega), List.length_append, List.length_range']
    simp only [sumTo]
    rw [ih (by omega)]
    have h1 := h l[k] (List.getElem_mem _)
    have e : ct l k = l[k].2 := by simp [ct, show k < l.length by omega]
    omega
theorem sumTo_spansOf (P : List Nat) : sumTo (spansOf P) (spansOf P).length = P.length := by
  rw [sumTo_pages (spansOf_pos P) _ (Nat.le_refl _), List.take_length, pagesL_spansOf]
set_option maxHeartbeats 1000000 in
theorem count_any {w : World} {v : Value} {P : List Nat} (h : RdS w v (spansOf P)) (hP : P.length ≤ 1024) (hb : ∀ i ∈ P, i < 1024) :
    Calls Try.prog 30 #[v] w fun e w' => e = .returned (.int .i64 P.length) ∧ ∃ k, w' = w.drewN k := by
  obtain ⟨a, c, rfl, h⟩ := h
  have hlen := spansOf_length P
  have hall := span_all (S := { pages := 1024, inodes := 0, cores := 0, data := 0 }) (P := P) (fun i hi => ⟨Nat.zero_le _, hb i hi⟩)
  have hsum := sumTo_spansOf P
  have hpr : ∀ k, k ≤ (spansOf P).length → 0 ≤ sumTo (spansOf P) k ∧ sumTo (spansOf P) k ≤ 1024 := by
    intro k hk
    rw [sumTo_pages (spansOf_pos P) _ hk]
    have e : pagesL (spansOf P) = pagesL ((spansOf P).take k) ++ pagesL ((spansOf P).drop k) := by rw [← pagesL_append, List.take_append_drop]
    rw [pagesL_spansOf] at e
    have : P.length = (pagesL ((spansOf P).take k)).length + (pagesL ((spansOf P).drop k)).length := by rw [← List.length_append, ← e]
    omega
  generalize hl : spansOf P = l at *
  generalize hn : l.length = n at *
  have H := hide h
  have HA := hide hall
  have HS := hide hsum
  have HPR := hide hpr
  have HN := hide hn
  clear h hall hsum hpr hn
  clear hl
  go_enter Try.func30, Try.ntmps30
  go_wp2
  go_loopw [3, 4] (fun s i wr => ∃ k : Nat, k ≤ n ∧ i = .int .i64 k ∧ s = .int .i64 (sumTo l k) ∧ ∃ m, wr = w.drewN m) (fun _ i _ => n - (intOf i).toNat)
  case atStart => exact ⟨0, by omega, rfl, rfl, 0, rfl⟩
  case round =>
    obtain ⟨k, hk, rfl, rfl, m, rfl⟩ := hrel
    by_cases hlt : k < n
    · rcases H.out with e | ⟨g1, rfl, g⟩
      · have := HN.out; subst e; simp at this; omega
      obtain ⟨q1, q2⟩ := g k hlt
      have h3 := HA.out k hlt
      have h4 := HPR.out k hk
      have hsu : sumTo l (k + 1) = sumTo l k + ct l k := rfl
      generalize fr l k = f at q1 h3
      generalize ct l k = c at q2 h3 hsu
      generalize sumTo l k = s at h4 hsu
      obtain ⟨h5, h6, h7⟩ := h3
      obtain ⟨h8, h9⟩ := h4
      have t1 : ¬ c < 1 := by omega
      have t2 : ¬ 1024 < c := by omega
      have t3 : ¬ f < 0 := by omega
      have t4 : ¬ 1024 < f := by omega
      have t5 : ¬ 1024 < n := by omega
      have HSU := hide hsu
      clear g hsu
      go_wp2
      go_roundw
      case rel => exact ⟨k + 1, by omega, by go_num, by rw [HSU.out], _, rfl⟩
      case measure => simp [intOf]; omega
    · have hkn : k = n := by omega
      subst hkn
      go_wp2
      go_ret
      exact ⟨by rw [HS.out]; rfl, _, rfl⟩

theorem ints_one (l : List Int) : ∀ u ∈ ints l, u.oneCell' = true := by
  intro u hu
  simp only [ints, List.mem_map] at hu
  obtain ⟨x, _, rfl⟩ := hu
  rfl
theorem OwnI.src {w : World} {base : Nat} {v : Value} {l : List Int} (h : OwnI w base v l) : Src w v l.length (ints l) := by
  rcases h.cases with ⟨rfl, rfl⟩ | ⟨g, c, rfl, _⟩
  · exact ⟨_, _, rfl, .inl ⟨rfl, rfl, rfl, rfl⟩⟩
  · refine ⟨_, _, rfl, .inr ⟨g, 0, rfl, fun j u hj => ?_⟩⟩
    have hjl : j < l.length := by rw [← ints_length l]; exact (List.getElem?_eq_some_iff.1 hj).1
    rw [ints_get l j hjl] at hj
    rw [Nat.zero_add, h.cell rfl j hjl, ← hj]
theorem copyInts_any {w : World} {v : Value} {l : List Int} (h : Src w v l.length (ints l)) (hlen : l.length ≤ 1099511627776) :
    Calls Try.prog 28 #[v] w fun e w' => ∃ v', e = .returned v' ∧ OwnI w' w.heap.size v' l ∧ Kp [] w w' := by
  obtain ⟨i0, hi0, hz0, hz1, hz2⟩ := info_parts Try.info_int
  have H := hide h
  go_enter Try.func28, Try.ntmps28
  go_wp2_with (at_builtin; refine wpl_append _ rfl _ _ 49 rfl w.heap.size 3 i0 (.int .i64 0) 1 8 Try.underlying49 hi0 hz0 hz1 hz2 rfl (by decide) (.slice none 0 0) 0 [] rfl (World.ownsRow_nil _ _ _ _) v l.length (ints l) rfl H.out (by rw [ints_length, Nat.mul_one]) (ints_one l) (by unfold maxLen; omega) (by omega) (Nat.le_refl _) ?_; intro v' w1 hown1 hgr hwh)
  go_ret
  simp only [Nat.zero_add, List.nil_append] at hown1
  exact ⟨v', rfl, hown1, (Kp.refl [] w).grown hgr (fun k hk => by cases hk)⟩
set_option maxHeartbeats 1000000 in
theorem sameInts_eq {w : World} {v1 v2 : Value} {l : List Int} (h1 : RdI w v1 l) (h2 : RdI w v2 l) (hlen : l.length ≤ 1099511627776) :
    Calls Try.prog 29 #[v1, v2] w fun e w' => e = .returned (.bool true) ∧ ∃ k, w' = w.drewN k := by
  obtain ⟨a1, c1, rfl, h1⟩ := h1
  obtain ⟨a2, c2, rfl, h2⟩ := h2
  generalize hn : l.length = n at *
  have H1 := hide h1
  have H2 := hide h2
  have HN := hide hn
  clear h1 h2 hn
  go_enter Try.func29, Try.ntmps29
  go_wp2
  go_loopw [5] (fun i wr => ∃ k : Nat, k ≤ n ∧ i = .int .i64 k ∧ ∃ m, wr = w.drewN m) (fun i _ => n - (intOf i).toNat)
  case atStart => exact ⟨0, by omega, rfl, 0, rfl⟩
  case round =>
    obtain ⟨k, hk, rfl, m, rfl⟩ := hrel
    by_cases hlt : k < n
    · rcases H1.out with e | ⟨g1, rfl, g⟩
      · have := HN.out; subst e; simp at this; omega
      rcases H2.out with e | ⟨g2, rfl, g'⟩
      · have := HN.out; subst e; simp at this; omega
      have q1 := g k hlt
      have q3 := g' k hlt
      generalize gi l k = f at q1 q3
      clear g g'
      go_wp2
      go_quiet (fail)
      go_wp2
      go_roundw
      case rel => exact ⟨k + 1, by omega, by go_num, _, rfl⟩
      case measure => simp [intOf]; omega
    · go_wp2
      go_ret
      exact ⟨rfl, _, rfl⟩

theorem nis_range_succ (R : List Nat) (f t : Nat) : nis (R ++ List.range' f (t + 1)) = nis (R ++ List.range' f t) ++ [((f + t : Nat) : Int)] := by
  rw [List.range'_concat, ← List.append_assoc, nis_append]
  simp [nis]
set_option maxHeartbeats 2000000 in
theorem pagesOf_any {w : World} {v : Value} {P : List Nat} (h : RdS w v (spansOf P)) (hP : P.length ≤ 1024) (hb : ∀ i ∈ P, i < 1024) :
    Calls Try.prog 33 #[v] w fun e w' => ∃ v', e = .returned v' ∧ OwnI w' w.heap.size v' (nis P) ∧ Kp [] w w' := by
  obtain ⟨a, c, rfl, h⟩ := h
  have hlen := spansOf_length P
  have hall := span_all (S := { pages := 1024, inodes := 0, cores := 0, data := 0 }) (P := P) (fun i hi => ⟨Nat.zero_le _, hb i hi⟩)
  have hpg := pagesL_spansOf P
  have hpl : ∀ k, (pagesL ((spansOf P).take k)).length ≤ 1024 := by
    intro k
    have e : pagesL (spansOf P) = pagesL ((spansOf P).take k) ++ pagesL ((spansOf P).drop k) := by rw [← pagesL_append, List.take_append_drop]
    rw [pagesL_spansOf] at e
    have : P.length = (pagesL ((spansOf P).take k)).length + (pagesL ((spansOf P).drop k)).length := by rw [← List.length_append, ← e]
    omega
  generalize hl : spansOf P = l at *
  generalize hn : l.length = n at *
  have H := hide h
  have HA := hide hall
  have HPG := hide hpg
  have HPL := hide hpl
  have HN := hide hn
  clear h hall hpg hpl hn
  clear hl
  go_enter Try.func33, Try.ntmps33
  go_wp2
  go_loopw [3, 4] (fun m i wr => ∃ k : Nat, k ≤ n ∧ i = .int .i64 k ∧ OwnI wr w.heap.size m (nis (pagesL (l.take k))) ∧ Kp [] w wr) (fun _ i _ => n - (intOf i).toNat)
  case atStart => exact ⟨0, by omega, rfl, by rw [show pagesL (l.take 0) = [] from by simp [pagesL]]; exact OwnI.nil _ _, Kp.refl _ _⟩
  case round =>
    obtain ⟨wo, rfl⟩ : ∃ wo : World, wo = wr := ⟨_, rfl⟩
    obtain ⟨k, hk, rfl, hown, hkp⟩ := hrel
    by_cases hlt : k < n
    · rcases H.out with e | ⟨g1, rfl, g⟩
      · have := HN.out; subst e; simp at this; omega
      obtain ⟨q1, q2⟩ := g k hlt
      have h3 := HA.out k hlt
      have h4 := HPL.out k
      have h5 := HPL.out (k + 1)
      have hst := pagesL_take_succ l k (by rw [HN.out]; exact hlt)
      generalize fr l k = f at q1 h3 hst
      generalize ct l k = c at q2 h3 hst
      obtain ⟨f, rfl⟩ := Int.eq_ofNat_of_zero_le (show 0 ≤ f by omega)
      obtain ⟨c, rfl⟩ := Int.eq_ofNat_of_zero_le (show 0 ≤ c by omega)
      simp only [Int.toNat_natCast] at hst
      rw [hst, List.length_append, List.length_range'] at h5
      generalize pagesL (l.take k) = R at hown h4 h5 hst
      obtain ⟨h6, h7, h8⟩ := h3
      have r1 := hkp.cell q1 (by simp)
      have r2 := hkp.cell q2 (by simp)
      have HOWN := hide hown
      have HKP := hide hkp
      have HST := hide hst
      have Q1 := hide q1
      have Q2 := hide q2
      clear hown hkp hst q1 q2
      clear g
      go_wp2
      go_loopw [3, 5] (fun m i wr => ∃ t : Nat, t ≤ c ∧ i = .int .i64 t ∧ OwnI wr w.heap.size m (nis (R ++ List.range' f t)) ∧ Kp [] w wr) (fun _ i _ => c - (intOf i).toNat)
      case atStart => exact ⟨0, by omega, rfl, by simpa using HOWN.out, HKP.out⟩
      case round =>
        obtain ⟨t, ht, rfl, hown2, hkp2⟩ := hrel
        have r1 := hkp2.cell Q1.out (by simp)
        have r2 := hkp2.cell Q2.out (by simp)
        by_cases htc : t < c
        · have hsz := hkp2.size
          have hll : (nis (R ++ List.range' f t)).length ≤ 4096 := by rw [nis_length, List.length_append, List.length_range']; omega
          have hlt2 := hown2.lt
          obtain ⟨la, lc, hv⟩ := hown2.form
          subst hv
          have HO2 := hide hown2
          have HK2 := hide hkp2
          have HL2 := hide hlt2
          clear hown2 hkp2 hlt2
          go_wp2_with (at_builtin; refine app_int rfl _ _ rfl w.heap.size (.slice la (nis (R ++ List.range' f t)).length lc) (nis (R ++ List.range' f t)) rfl (HO2.out.keep ((Kp.refl [] _).alloc _) (by simp)) _ ((f : Int) + (t : Int)) _ rfl (blk_new' (by simp) _) (by omega) (by simp; omega) ?_; intro v' w6 hown6 hgr hwh)
          go_roundw
          case rel => exact ⟨t + 1, by omega, by go_num, by rw [nis_range_succ]; simpa using hown6, (HK2.out.alloc _).grown hgr (fun x hx => .inr (HL2.out x hx).1)⟩
          case measure => simp [intOf]; omega
        · have htc : t = c := by omega
          subst htc
          go_wp2
          go_roundw
          case rel => exact ⟨k + 1, by omega, by go_num, by rw [HST.out]; exact hown2, hkp2⟩
          case measure => simp [intOf]; omega
    · have hkn : k = n := by omega
      subst hkn
      rw [show l.take k = l from by rw [← HN.out]; exact List.take_length, HPG.out] at hown
      go_wp2
      go_ret
      exact ⟨_, rfl, hown, hkp⟩

theorem Try.info_bool : (Try.prog.info? 4).map (fun i => (i.zero, i.size, i.bytes)) = some (some (.bool false), 1, 1) := by kernel_rfl
theorem onOf_whole (S : Sh) : onOf [((S.data : Int), (S.pages : Int) - S.data)] 1 = freeOf S (fun _ => false) := by
  funext i
  simp only [onOf, addTo, fr, ct, freeOf]
  by_cases h1 : S.data ≤ i
  · by_cases h2 : i < S.pages
    · simp [h1, h2]; omega
    · simp [h1, h2]; omega
  · simp [h1]
/-- NewPool of all pages of a data area. -/
theorem newPool_whole {w : World} {S : Sh} (ok : S.Ok) {v : Value} {base : Nat} (hv : Own w base v [((S.data : Int), (S.pages : Int) - S.data)]) :
    Calls Try.prog 14 #[.agg #[.int .i64 S.pages, .int .i64 S.inodes, .int .i64 S.cores, .int .i64 S.data], v] w fun e w' => ∃ pb wb cap, e = .returned (.tuple #[.pointer (some ⟨pb, 0, none⟩), .int .i64 0]) ∧ w.heap.size ≤ pb ∧ w.heap.size ≤ wb ∧
      PoolAt w' pb wb cap S (freeOf S (fun _ => false)) ∧ Kp [] w w' := by
  refine (newPool_any S ok v _ w hv.rd (by simp)).mono ?_
  rintro e w' ⟨hk, ⟨_, pb, wb, cap, rfl, h1, h2, h3⟩ | ⟨hno, _⟩⟩
  · rw [show [((S.data : Int), (S.pages : Int) - S.data)].length = 1 from rfl, onOf_whole] at h3
    exact ⟨pb, wb, cap, rfl, h1, h2, h3, hk⟩
  · refine absurd (fun j hj => ?_) hno
    simp at hj
    subst hj
    have := ok.d2
    refine ⟨by simp [ct]; omega, by simp [nx, fr], by simp [fr]; omega, by simp [ct, fr]⟩
theorem book_new {w : World} {bb hb : Nat} {S : Sh} (hd : w.heap[bb]? = some (.cells #[.int .i64 S.pages, .int .i64 S.inodes, .int .i64 S.cores, .int .i64 S.data, .slice (some ⟨hb, 0, none⟩) S.pages S.pages, .int .i64 0] 42 (0, 0)))
    (hr : w.heap[hb]? = some (.cells (madeCells #[.bool false] S.pages) 4 (0, 0))) (hne : bb ≠ hb) : BookAt w bb hb S S.pages (fun _ => false) (cnt (fun _ => false) S.pages) := by
  refine ⟨?_, ⟨_, hr, fun i hi => made_at _ _ _ hi⟩, hne⟩
  rw [hd, cnt_zero']; rfl
end Go.Proofs.Ytoghdhjeopcjkaa
