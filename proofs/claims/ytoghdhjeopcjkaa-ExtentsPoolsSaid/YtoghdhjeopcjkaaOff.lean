/- The contracts of NewPool, Give and the small helpers over slices that begin anywhere in their array. Conditions: the slices are read as told. -/
import Derived.Test.YtoghdhjeopcjkaaHelp
import Derived.Test.YtoghdhjeopcjkaaSlS
namespace Go.Proofs.Ytoghdhjeopcjkaa
open Go.RowKit

/-- A slice of spans that is read, wherever it begins. -/
def RdSO (w : World) (v : Value) (l : Sps) : Prop :=
  ∃ a cap, v = .slice a l.length cap ∧ (l = [] ∨ ∃ g o, a = some ⟨g, o, none⟩ ∧ ∀ i, i < l.length → w.cell? ⟨g, o + i * 2, none⟩ = some (.int .i64 (fr l i)) ∧ w.cell? ⟨g, o + i * 2 + 1, none⟩ = some (.int .i64 (ct l i)))
def RdIO (w : World) (v : Value) (l : List Int) : Prop :=
  ∃ a cap, v = .slice a l.length cap ∧ (l = [] ∨ ∃ g o, a = some ⟨g, o, none⟩ ∧ ∀ i, i < l.length → w.cell? ⟨g, o + i, none⟩ = some (.int .i64 (gi l i)))
theorem RdS.o {w : World} {v : Value} {l : Sps} (h : RdS w v l) : RdSO w v l := by
  obtain ⟨a, cap, rfl, h | ⟨g, rfl, h⟩⟩ := h
  · exact ⟨_, _, rfl, .inl h⟩
  · exact ⟨_, _, rfl, .inr ⟨g, 0, rfl, fun i hi => by simpa using h i hi⟩⟩
theorem RdI.o {w : World} {v : Value} {l : List Int} (h : RdI w v l) : RdIO w v l := by
  obtain ⟨a, cap, rfl, h | ⟨g, rfl, h⟩⟩ := h
  · exact ⟨_, _, rfl, .inl h⟩
  · exact ⟨_, _, rfl, .inr ⟨g, 0, rfl, fun i hi => by simpa using h i hi⟩⟩
theorem RdSO.keep {S : List Nat} {w w' : World} {v : Value} {l : Sps} (h : RdSO w v l) (k : Kp S w w') (hS : ∀ b, v.ownBlock = some b → b ∉ S) : RdSO w' v l := by
  obtain ⟨a, cap, rfl, h | ⟨g, o, rfl, h⟩⟩ := h
  · exact ⟨_, _, rfl, .inl h⟩
  · exact ⟨_, _, rfl, .inr ⟨g, o, rfl, fun i hi => ⟨k.cell (h i hi).1 (hS _ rfl), k.cell (h i hi).2 (hS _ rfl)⟩⟩⟩
theorem RdIO.keep {S : List Nat} {w w' : World} {v : Value} {l : List Int} (h : RdIO w v l) (k : Kp S w w') (hS : ∀ b, v.ownBlock = some b → b ∉ S) : RdIO w' v l := by
  obtain ⟨a, cap, rfl, h | ⟨g, o, rfl, h⟩⟩ := h
  · exact ⟨_, _, rfl, .inl h⟩
  · exact ⟨_, _, rfl, .inr ⟨g, o, rfl, fun i hi => k.cell (h i hi) (hS _ rfl)⟩⟩

theorem RdIO.keep2 {S : List Nat} {w w' : World} {v : Value} {l : List Int} (h : RdIO w v l) (k : Kp S w w') (hS : l ≠ [] → ∀ b, v.ownBlock = some b → b ∉ S) : RdIO w' v l := by
  by_cases e : l = []
  · subst e
    obtain ⟨a, cap, rfl, _⟩ := h
    exact ⟨_, _, rfl, .inl rfl⟩
  · exact h.keep k (hS e)
theorem copySpans_anyO {w : World} {v : Value} {l : Sps} (h : Src w v l.length (flat l)) (hlen : l.length ≤ 8796093022208) :
    Calls Try.prog 21 #[v] w fun e w' => ∃ v', e = .returned v' ∧ Own w' w.heap.size v' l ∧ Kp [] w w' := by
  obtain ⟨i0, hi0, hz0, hz1, hz2⟩ := info_parts Try.info_span
  have H := hide h
  go_enter Try.func21, Try.ntmps21
  go_wp2_with (at_builtin; refine wpl_append _ rfl _ _ 33 rfl w.heap.size 31 i0 (.agg #[.int .i64 0, .int .i64 0]) 2 16 Try.underlying33 hi0 hz0 hz1 hz2 rfl (by decide) (.slice none 0 0) 0 [] rfl (World.ownsRow_nil _ _ _ _) v l.length (flat l) rfl H.out (flat_length l) (flat_one l) (by unfold maxLen; omega) (by omega) (Nat.le_refl _) ?_; intro v' w1 hown1 hgr hwh)
  go_ret
  simp only [Nat.zero_add, List.nil_append] at hown1
  exact ⟨v', rfl, hown1, (Kp.refl [] w).grown hgr (fun k hk => by cases hk)⟩


theorem copyInts_anyO {w : World} {v : Value} {l : List Int} (h : Src w v l.length (ints l)) (hlen : l.length ≤ 17592186044416) :
    Calls Try.prog 28 #[v] w fun e w' => ∃ v', e = .returned v' ∧ OwnI w' w.heap.size v' l ∧ Kp [] w w' := by
  obtain ⟨i0, hi0, hz0, hz1, hz2⟩ := info_parts Try.info_int
  have H := hide h
  go_enter Try.func28, Try.ntmps28
  go_wp2_with (at_builtin; refine wpl_append _ rfl _ _ 49 rfl w.heap.size 3 i0 (.int .i64 0) 1 8 Try.underlying49 hi0 hz0 hz1 hz2 rfl (by decide) (.slice none 0 0) 0 [] rfl (World.ownsRow_nil _ _ _ _) v l.length (ints l) rfl H.out (by rw [ints_length, Nat.mul_one]) (ints_one l) (by unfold maxLen; omega) (by omega) (Nat.le_refl _) ?_; intro v' w1 hown1 hgr hwh)
  go_ret
  simp only [Nat.zero_add, List.nil_append] at hown1
  exact ⟨v', rfl, hown1, (Kp.refl [] w).grown hgr (fun k hk => by cases hk)⟩

set_option maxHeartbeats 1000000 in
theorem sameSpans_eqO {w : World} {v1 v2 : Value} {l : Sps} (h1 : RdSO w v1 l) (h2 : RdSO w v2 l) (hlen : l.length ≤ 140737488355328) :
    Calls Try.prog 26 #[v1, v2] w fun e w' => e = .returned (.bool true) ∧ ∃ k, w' = w.drewN k := by
  obtain ⟨a1, c1, rfl, h1⟩ := h1
  obtain ⟨a2, c2, rfl, h2⟩ := h2
  have sn := span_neq
  generalize hn : l.length = n at *
  have H1 := hide h1
  have H2 := hide h2
  have HN := hide hn
  clear h1 h2 hn
  go_enter Try.func26, Try.ntmps26
  go_wp2
  go_loopw [5] (fun i wr => ∃ k : Nat, k ≤ n ∧ i = .int .i64 k ∧ ∃ m, wr = w.drewN m) (fun i _ => n - (intOf i).toNat)
  case atStart => exact ⟨0, by omega, rfl, 0, rfl⟩
  case round =>
    obtain ⟨k, hk, rfl, m, rfl⟩ := hrel
    by_cases hlt : k < n
    · rcases H1.out with e | ⟨g1, o1, rfl, g⟩
      · have := HN.out; subst e; simp at this; omega
      rcases H2.out with e | ⟨g2, o2, rfl, g'⟩
      · have := HN.out; subst e; simp at this; omega
      obtain ⟨q1, q2⟩ := g k hlt
      obtain ⟨q3, q4⟩ := g' k hlt
      generalize fr l k = f at q1 q3
      generalize ct l k = c at q2 q4
      clear g g'
      go_wp2
      go_quiet (fail)
      go_wp2
      go_roundw
      case rel => exact ⟨k + 1, by omega, by go_num, _, rfl⟩
      case measure => simp [intOf]; omega
    · go_wp2
      go_ret
      exact ⟨rfl, _, rfl⟩


set_option maxHeartbeats 1000000 in
theorem sameInts_eqO {w : World} {v1 v2 : Value} {l : List Int} (h1 : RdIO w v1 l) (h2 : RdIO w v2 l) (hlen : l.length ≤ 140737488355328) :
    Calls Try.prog 29 #[v1, v2] w fun e w' => e = .returned (.bool true) ∧ ∃ k, w' = w.drewN k := by
  obtain ⟨a1, c1, rfl, h1⟩ := h1
  obtain ⟨a2, c2, rfl, h2⟩ := h2
  generalize hn : l.length = n at *
  have H1 := hide h1
  have H2 := hide h2
  have HN := hide hn
  clear h1 h2 hn
  go_enter Try.func29, Try.ntmps29
  go_wp2
  go_loopw [5] (fun i wr => ∃ k : Nat, k ≤ n ∧ i = .int .i64 k ∧ ∃ m, wr = w.drewN m) (fun i _ => n - (intOf i).toNat)
  case atStart => exact ⟨0, by omega, rfl, 0, rfl⟩
  case round =>
    obtain ⟨k, hk, rfl, m, rfl⟩ := hrel
    by_cases hlt : k < n
    · rcases H1.out with e | ⟨g1, o1, rfl, g⟩
      · have := HN.out; subst e; simp at this; omega
      rcases H2.out with e | ⟨g2, o2, rfl, g'⟩
      · have := HN.out; subst e; simp at this; omega
      have q1 := g k hlt
      have q3 := g' k hlt
      generalize gi l k = f at q1 q3
      clear g g'
      go_wp2
      go_quiet (fail)
      go_wp2
      go_roundw
      case rel => exact ⟨k + 1, by omega, by go_num, _, rfl⟩
      case measure => simp [intOf]; omega
    · go_wp2
      go_ret
      exact ⟨rfl, _, rfl⟩


set_option maxHeartbeats 2000000 in
set_option maxRecDepth 100000 in
theorem newPool_anyO (S : Sh) (ok : S.Ok) (v : Value) (l : Sps) (w : World) (hv : RdSO w v l) (hlen : l.length ≤ 140737488355328) :
    Calls Try.prog 14 #[.agg #[.int .i64 S.pages, .int .i64 S.inodes, .int .i64 S.cores, .int .i64 S.data], v] w (NewPoolPost S l w) := by
  obtain ⟨a, cap, rfl, hrd⟩ := hv
  have HF := fits_ok ok
  obtain ⟨hf1, hf2⟩ := HF
  obtain ⟨Q, hQ⟩ : ∃ Q, Q = NewPoolPost S l w := ⟨_, rfl⟩
  rw [← hQ]
  have kmx := run_mx
  have hm : mn (mx (S.pages : Int) 0) 1024 = S.pages := by have := mx_le (S.pages : Int) 0; have := mn_le (mx (S.pages : Int) 0) 1024; have := ok.p2; omega
  have OK := hide ok
  have o1 := ok.p2
  have HF1 := hide hf1
  have HF2 := hide hf2
  have HR := hide hrd
  have HM := hide hm
  have HQ := hide hQ
  clear hf1 hf2 hrd hm hQ
  clear ok
  go_enter Try.func14, Try.ntmps14
  go_wp2_with (go_at_call 41; refine (fit_yes _ _ _ HF1.out _).mono ?_; rw [HF2.out]; rintro e w1 ⟨rfl, hk1⟩; have hb0 := hk1.blk (blk_new _ _) (by simp); have hlt := blk_lt hb0; have hc := blk4 hb0; obtain ⟨d0, d1, d2, d3⟩ := hc; have HK1 := hide hk1; have HB0 := hide hb0; clear hb0 hk1)
  go_region_held3 (fun w' => w'.cell? ⟨w.heap.size, 0, none⟩ = some (.int .i64 S.pages) ∧ w'.cell? ⟨w.heap.size, 1, none⟩ = some (.int .i64 S.inodes) ∧ w'.cell? ⟨w.heap.size, 2, none⟩ = some (.int .i64 S.cores) ∧ w'.cell? ⟨w.heap.size, 3, none⟩ = some (.int .i64 S.data))
    (first | exact ⟨q0, q1, q2, q3⟩ | exact blk4 (blk_alloc hb2 _) | exact blk4 (blk_alloc HB0.out _))
    (first
      | (go_at_call 42; refine (newMarks_any _ S.pages HM.out _).mono ?_; rintro e w2 ⟨wb, rfl, hwb, hwbk, hk2⟩; have hb2 := hk2.blk (blk_alloc HB0.out _) (by simp); have hlt2 := blk_lt hb2; have kq := blk4 hb2; obtain ⟨q0, q1, q2, q3⟩ := kq))
  have hwb2 : w1.heap.size + 1 ≤ wb := by simpa using hwb
  have HB2 := hide hb2
  have HW := hide hwbk
  have HK2 := hide hk2
  clear hb2 hwbk hk2 d0 d1 d2 d3 kmx
  go_wp2
  go_loopw [9, 41] (fun nxt i wr => ∃ k : Nat, k ≤ l.length ∧ i = .int .i64 k ∧ nxt = .int .i64 (nx S l k) ∧ goodTo S l k ∧ PoolAt wr w2.heap.size wb ((S.pages + 63) / 64) S (onOf l k) ∧ Kp [] w wr ∧
      wr.heap[w.heap.size]? = some (.cells #[.int .i64 S.pages, .int .i64 S.inodes, .int .i64 S.cores, .int .i64 S.data] 23 (0, 0))) (fun _ i _ => l.length - (intOf i).toNat)
  case atStart =>
    have g1 : Kp [] w w2 := ((Kp.refl [] w).alloc _).trans' (HK1.out.trans' ((Kp.refl [] w1).alloc _ |>.trans' (((Kp.refl [] _).drewN 1).trans' HK2.out)))
    refine ⟨0, by omega, rfl, rfl, fun j hj => by omega, ?_, ?_, ?_⟩
    · refine new_marks_at HW.out rfl OK.out (blk_new' (by simp) _) ?_ ?_
      · exact blk_alloc HW.out _ |>.trans HW.out.symm
      · have := blk_lt HW.out; omega
    · exact g1.alloc _
    · exact blk_alloc HB2.out _
  case round =>
    obtain ⟨wo, rfl⟩ : ∃ wo : World, wo = wr := ⟨_, rfl⟩
    obtain ⟨k, hk, rfl, rfl, hgood, hpool, hkp, hshape⟩ := hrel
    by_cases hlt : k < l.length
    · rcases HR.out with hnil | ⟨g, o, rfl, hrd⟩
      · subst hnil; simp at hlt
      have hc := hrd k hlt
      have hc1 := hkp.cell hc.1 (by simp)
      have hc2 := hkp.cell hc.2 (by simp)
      have hs := blk4 hshape
      obtain ⟨s0, s1, s2, s3⟩ := hs
      have hsl := blk_lt hshape
      have hnx := (onOf_below k hgood).1
      have hnext : nx S l (k + 1) = fr l k + ct l k := rfl
      have hall : ¬ goodAt S l k → ¬ goodTo S l l.length := fun h1 h2 => h1 (h2 k hlt)
      generalize hf : fr l k = f at hc1 hnext
      generalize hcc : ct l k = c at hc2 hnext
      generalize hx : nx S l k = x at hnx
      have hga : goodAt S l k ↔ (1 ≤ c ∧ x ≤ f ∧ f < S.pages ∧ c ≤ S.pages - f) := by unfold goodAt; rw [hf, hcc, hx]
      have HGA := hide hga
      have HALL := hide hall
      have HSH := hide hshape
      have HNX := hide hnext
      have HGOOD := hide hgood
      have HPOOL := hide hpool
      have HKP := hide hkp
      have HF := hide hf
      have HC := hide hcc
      have HX := hide hx
      clear hc hrd hga hall hshape hnext hpool hkp hf hcc hx hgood
      by_cases t1 : c < 1
      · go_wp2
        rw [HQ.out]
        exact ⟨HKP.out.alloc _, .inr ⟨HALL.out (by rw [HGA.out]; omega), rfl⟩⟩
      by_cases t2 : f < x
      · go_wp2
        rw [HQ.out]
        exact ⟨HKP.out.alloc _, .inr ⟨HALL.out (by rw [HGA.out]; omega), rfl⟩⟩
      by_cases t3 : (S.pages : Int) ≤ f
      · go_wp2
        rw [HQ.out]
        exact ⟨HKP.out.alloc _, .inr ⟨HALL.out (by rw [HGA.out]; omega), rfl⟩⟩
      by_cases t4 : (S.pages : Int) - f < c
      · go_wp2
        rw [HQ.out]
        exact ⟨HKP.out.alloc _, .inr ⟨HALL.out (by rw [HGA.out]; omega), rfl⟩⟩
      have hgk : goodAt S l k := by rw [HGA.out]; omega
      have HGK := hide hgk
      obtain ⟨f, rfl⟩ := Int.eq_ofNat_of_zero_le (show 0 ≤ f by omega)
      obtain ⟨c, rfl⟩ := Int.eq_ofNat_of_zero_le (show 0 ≤ c by omega)
      have hwoL := HPOOL.out.m.lt
      have hwoW := HPOOL.out.m.wlt
      have hfd : S.data ≤ f := by omega
      have hfp : f + c ≤ S.pages := by omega
      have hoff : ∀ i, f ≤ i → onOf l k i = false := by
        intro i hi
        have := (onOf_below k HGOOD.out).2 i
        rw [HX.out] at this
        cases h : onOf l k i with
        | false => rfl
        | true => have := this h; omega
      have HOFF := hide hoff
      clear hgk hoff q0 q1 q2 q3
      go_wp2
      clear t1 t2 t3 t4
      go_loopw [78] (fun i wr => ∃ j : Nat, j ≤ c ∧ i = .int .i64 j ∧ PoolAt wr w2.heap.size wb ((S.pages + 63) / 64) S (addTo (onOf l k) f j) ∧ Kp [w2.heap.size, wb] (wo.alloc (.cells #[.int .i64 f, .int .i64 c] 31)) wr) (fun i _ => c - (intOf i).toNat)
      case atStart => exact ⟨0, by omega, rfl, by rw [addTo_zero]; exact HPOOL.out.keep ((Kp.refl [] _).alloc _) (by simp) (by simp), Kp.refl _ _⟩
      case round =>
        obtain ⟨j, hj, rfl, hp2, hk2⟩ := hrel
        by_cases hjc : j < c
        · have hxb := hk2.blk (blk_new _ _) (by simp; omega)
          have hxc := blk2 hxb
          obtain ⟨x0, x1⟩ := hxc
          have ew : IntKind.i64.wrap ((f : Int) + (j : Int)) = ((f + j : Nat) : Int) := by rw [IntKind.wrap_i64]; omega
          have hoff2 : addTo (onOf l k) f j (f + j) = false := by simp [addTo, HOFF.out (f + j) (by omega)]
          have HP2 := hide hp2
          have HK2 := hide hk2
          have HO2 := hide hoff2
          clear hp2 hk2 hoff2
          clear hxb
          go_wp2
          refine wp_region_still_tail 7 (by kernel_rfl) (by kernel_rfl) ?_
          simp only [List.take_succ_cons, List.take_zero, List.drop_succ_cons, List.drop_zero]
          change wpStill _ _ (World.drew _) _ _ _
          repeat (refine wpStill_step (fun K hK => ?_); go_simp; refine hK _ ?_; clear hK K)
          refine wpStill_nil ?_
          change wpList _ _ _ _ _ (World.drewN _ 1)
          go_wp2_with (go_at_call 43; refine (mset_any (HP2.out.m.drewN 1) (f + j) (by omega) HO2.out).mono ?_; rintro e w3 ⟨rfl, hm3, hk3⟩)
          go_roundw
          case rel =>
            have hm4 := HP2.out.turn hm3 (by omega)
            rw [addTo_succ] at hm4
            exact ⟨j + 1, by omega, by go_num, hm4, HK2.out.trans' ((Kp.refl _ _).drewN 1 |>.trans' hk3)⟩
          case measure => simp [intOf]; omega
        · have hjc : j = c := by omega
          subst hjc
          go_wp2
          have hon : onOf l (k + 1) = addTo (onOf l k) f j := by simp only [onOf]; rw [HF.out, HC.out]; simp
          go_roundw
          case rel => exact ⟨k + 1, by omega, by go_num, by rw [HNX.out], goodTo_succ HGOOD.out HGK.out, by rw [hon]; exact hp2,
            (HKP.out.alloc _).trans hk2 (by simp; omega), hk2.blk (blk_alloc HSH.out _) (by simp; omega)⟩
          case measure => simp [intOf]; omega
    · have hkl : k = l.length := by omega
      subst hkl
      go_wp2
      rw [HQ.out]
      exact ⟨hkp, .inl ⟨hgood, _, _, _, rfl, by have := HK1.out.size; simp at this; omega, by have := HK1.out.size; simp at this; omega, hpool⟩⟩

section
variable {w : World} {b wb cap : Nat} {on : Nat → Bool} {S : Sh}
set_option maxHeartbeats 2000000 in
set_option maxRecDepth 100000 in
theorem pGive_anyO (h : PoolAt w b wb cap S on) (v : Value) (l : List Int) (hv : RdIO w v l) (hvb : l ≠ [] → ∀ x, v.ownBlock = some x → x ≠ b ∧ x ≠ wb) (hlen : l.length ≤ 140737488355328) :
    Calls Try.prog 27 #[.pointer (some ⟨b, 0, none⟩), v] w (GivePost S b wb cap on l w) := by
  obtain ⟨a, lc, rfl, hrd⟩ := hv
  obtain ⟨Q, hQ⟩ : ∃ Q, Q = GivePost S b wb cap on l w := ⟨_, rfl⟩
  rw [← hQ]
  have hm : mn (mx (S.pages : Int) 0) 1024 = S.pages := by have := mx_le (S.pages : Int) 0; have := mn_le (mx (S.pages : Int) 0) 1024; have := h.ok.p2; omega
  have c3 := h.c3
  have hbl := h.m.lt
  have hwl := h.m.wlt
  have o1 := h.ok.p2
  have H := hide h
  have HM := hide hm
  have HQ := hide hQ
  have HR := hide hrd
  clear hm hQ hrd
  clear h
  go_enter Try.func27, Try.ntmps27
  go_wp2_with (go_at_call 42; refine (newMarks_any _ S.pages HM.out _).mono ?_; rintro e w1 ⟨wb2, rfl, hwb2, hw2, hk1⟩)
  have hback : MarksAt (w1.alloc (.cells #[.int .i64 S.pages, .int .i64 0, .slice (some ⟨wb2, 0, none⟩) ((S.pages + 63) / 64) ((S.pages + 63) / 64)] 94)) w1.heap.size wb2 ((S.pages + 63) / 64) 94 [] S.pages (fun _ => false) :=
    marks_lit (blk_new _ _) (blk_alloc hw2 _) rfl o1 (by have := blk_lt hw2; omega)
  have hk2 : Kp [] w (w1.alloc (.cells #[.int .i64 S.pages, .int .i64 0, .slice (some ⟨wb2, 0, none⟩) ((S.pages + 63) / 64) ((S.pages + 63) / 64)] 94)) := hk1.alloc _
  have hs1 := hk1.size
  have hwb3 := blk_lt hw2
  have HBACK := hide hback
  have HK2 := hide hk2
  clear hback hk2
  clear hw2 hk1
  go_loopw [6, 19] (fun ev i wr => ∃ k : Nat, k ≤ l.length ∧ i = .int .i64 k ∧ ev = .int .i64 (twv (tw on l k)) ∧ inTo S l k ∧ Kp [] w wr ∧ MarksAt wr w1.heap.size wb2 ((S.pages + 63) / 64) 94 [] S.pages (bk on l k)) (fun _ i _ => l.length - (intOf i).toNat)
  case atStart => exact ⟨0, by omega, rfl, rfl, fun j hj => by omega, HK2.out, HBACK.out⟩
  case round =>
    obtain ⟨k, hk, rfl, rfl, hin, hkr, hbk⟩ := hrel
    by_cases hlt : k < l.length
    · rcases HR.out with hnil | ⟨g, o, rfl, hrd⟩
      · subst hnil; simp at hlt
      have hcell := hkr.cell (hrd k hlt) (by simp)
      have hp1 := H.out.keep hkr (by simp) (by simp)
      have hmem : ∀ x, gi l k = x → ¬ ((S.data : Int) ≤ x ∧ x < S.pages) → ¬ inTo S l l.length := fun x hx h1 h2 => h1 (by have := h2 k hlt; rw [hx] at this; exact this)
      have hin2 : ∀ x, gi l k = x → (S.data : Int) ≤ x → x < S.pages → inTo S l (k + 1) := fun x hx h1 h2 j hj => by
        by_cases e : j = k
        · subst e; rw [hx]; exact ⟨h1, h2⟩
        · exact hin j (by omega)
      have htw : ∀ x v1 v2, gi l k = x → on x.toNat = v1 → bk on l k x.toNat = v2 → tw on l (k + 1) = (tw on l k || (v1 || v2)) := fun x v1 v2 h1 h2 h3 => by simp only [tw]; rw [h1, h2, h3]
      have hb2 : ∀ x v1, gi l k = x → on x.toNat = v1 → bk on l (k + 1) = if v1 then bk on l k else put (bk on l k) x.toNat true := fun x v1 h1 h2 => by simp only [bk]; rw [h1, h2]
      generalize hx : gi l k = x at hcell
      have hmem := hmem x hx
      have hin2 := hin2 x hx
      have htw := fun v1 v2 => htw x v1 v2 hx
      have hb2 := fun v1 => hb2 x v1 hx
      have hwr := hkr.size
      have HP1 := hide hp1
      have HMEM := hide hmem
      have HIN2 := hide hin2
      have HTW := hide htw
      have HB2 := hide hb2
      have HKR := hide hkr
      have HBK := hide hbk
      clear hp1 hmem hin2 htw hb2 hkr hbk
      clear hrd hx hin
      by_cases hpg : (S.data : Int) ≤ x ∧ x < S.pages
      · have hpr : (decide ((S.data : Int) ≤ x) && decide (x < (S.pages : Int))) = true := by simp; exact hpg
        obtain ⟨hx1, hx2⟩ := hpg
        obtain ⟨x, rfl⟩ := Int.eq_ofNat_of_zero_le (show 0 ≤ x by omega)
        have HPR := hide hpr
        clear hpr
        cases hon : on x with
        | true =>
          have ht := HTW.out true (bk on l k x) hon rfl
          have hb := HB2.out true hon
          have HT := hide ht
          have HB := hide hb
          have HON := hide hon
          clear ht hb hon
          go_wp2_with (first
            | (go_at_call 52; refine (isPage_any HP1.out _).mono ?_; rw [HPR.out]; rintro e w2 ⟨rfl, k2, rfl⟩)
            | (go_at_call 53; refine (mhas_nat (HP1.out.m.drewN _) _ x rfl true HON.out).mono ?_; rintro e w3 ⟨rfl, k3, rfl⟩))
          go_roundw
          case rel => exact ⟨k + 1, by omega, by go_num, by rw [HT.out]; simp [twv], HIN2.out hx1 hx2, HKR.out.drewN _, by rw [HB.out]; exact HBK.out.drewN _⟩
          case measure => simp [intOf]; omega
        | false =>
          cases hbv : bk on l k x with
          | true =>
            have ht := HTW.out false true hon hbv
            have hb := HB2.out false hon
            have hbs := put_self hbv
            have HT := hide ht
            have HB := hide hb
            have HON := hide hon
            have HBV := hide hbv
            have HBS := hide hbs
            clear ht hb hon hbv hbs
            go_wp2_with (first
              | (go_at_call 52; refine (isPage_any HP1.out _).mono ?_; rw [HPR.out]; rintro e w2 ⟨rfl, k2, rfl⟩)
              | (go_at_call 53; refine (mhas_nat (HP1.out.m.drewN _) _ x rfl false HON.out).mono ?_; rintro e w3 ⟨rfl, k3, rfl⟩)
              | (go_at_call 43; refine (mset_put (HBK.out.drewN _) _ x rfl (by omega) true HBV.out).mono ?_; rintro e w4 ⟨rfl, hm4, hk4⟩))
            go_roundw
            case rel => exact ⟨k + 1, by omega, by go_num, by rw [HT.out]; simp [twv], HIN2.out hx1 hx2, (HKR.out.drewN _).trans hk4 (by simp; omega), by rw [HB.out]; exact hm4⟩
            case measure => simp [intOf]; omega
          | false =>
            have ht := HTW.out false false hon hbv
            have hb := HB2.out false hon
            have HT := hide ht
            have HB := hide hb
            have HON := hide hon
            have HBV := hide hbv
            clear ht hb hon hbv
            go_wp2_with (first
              | (go_at_call 52; refine (isPage_any HP1.out _).mono ?_; rw [HPR.out]; rintro e w2 ⟨rfl, k2, rfl⟩)
              | (go_at_call 53; refine (mhas_nat (HP1.out.m.drewN _) _ x rfl false HON.out).mono ?_; rintro e w3 ⟨rfl, k3, rfl⟩)
              | (go_at_call 43; refine (mset_put (HBK.out.drewN _) _ x rfl (by omega) false HBV.out).mono ?_; rintro e w4 ⟨rfl, hm4, hk4⟩))
            go_roundw
            case rel => exact ⟨k + 1, by omega, by go_num, by rw [HT.out]; simp [twv], HIN2.out hx1 hx2, (HKR.out.drewN _).trans hk4 (by simp; omega), by rw [HB.out]; exact hm4⟩
            case measure => simp [intOf]; omega
      · have hpr : (decide ((S.data : Int) ≤ x) && decide (x < (S.pages : Int))) = false := by
          rw [Bool.and_eq_false_iff, decide_eq_false_iff_not, decide_eq_false_iff_not]; omega
        have HPR := hide hpr
        have HPG := hide hpg
        clear hpr hpg
        go_wp2_with (go_at_call 52; refine (isPage_any HP1.out _).mono ?_; rw [HPR.out]; rintro e w2 ⟨rfl, k2, rfl⟩)
        rw [HQ.out]
        exact ⟨(HKR.out.mono (by simp)).drewN _, .inl ⟨HMEM.out HPG.out, rfl, HP1.out.drewN _⟩⟩
    · have hkl : k = l.length := by omega
      subst hkl
      have hp1 := H.out.keep hkr (by simp) (by simp)
      cases htw : tw on l l.length with
      | true =>
        rw [show twv true = 51 from rfl]
        have HP1 := hide hp1
        have HKR := hide hkr
        have HTW := hide htw
        have HIN := hide hin
        clear hp1 hkr htw hin
        go_wp2
        rw [HQ.out]
        exact ⟨HKR.out.mono (by simp), .inr (.inl ⟨HIN.out, HTW.out, rfl, HP1.out⟩)⟩
      | false =>
        rw [show twv false = 0 from rfl]
        have HP1 := hide hp1
        have HKR := hide hkr
        have HTW := hide htw
        have HIN := hide hin
        clear hp1 hkr htw hin
        go_wp2
        go_loopw [43] (fun i w2 => ∃ k : Nat, k ≤ l.length ∧ i = .int .i64 k ∧ PoolAt w2 b wb cap S (pl on l k) ∧ Kp [b, wb] w w2) (fun i _ => l.length - (intOf i).toNat)
        case atStart => exact ⟨0, by omega, rfl, HP1.out, HKR.out.mono (by simp)⟩
        case round =>
          obtain ⟨wo, rfl⟩ : ∃ wo : World, wo = wr := ⟨_, rfl⟩
          obtain ⟨k, hk, rfl, hp2, hk2⟩ := hrel
          by_cases hlt : k < l.length
          · rcases HR.out with hnil | ⟨g, o, rfl, hrd⟩
            · subst hnil; simp at hlt
            have hb2 := hvb (fun e => by rw [e] at hlt; simp at hlt) g rfl
            have hcell := hk2.cell (hrd k hlt) (by simp; omega)
            have hin3 := HIN.out k hlt
            have hpl : pl on l (k + 1) = put (pl on l k) (gi l k).toNat true := rfl
            generalize hx : gi l k = x at hcell hin3 hpl
            obtain ⟨x, rfl⟩ := Int.eq_ofNat_of_zero_le (show 0 ≤ x by omega)
            have hw2 := hp2.m.lt
            have HP2 := hide hp2
            have HKK := hide hk2
            have HPL := hide hpl
            clear hp2 hk2 hpl
            clear hrd hx
            go_wp2_with (go_at_call 43; refine (mset_put HP2.out.m _ x rfl (by omega) (pl on l k x) rfl).mono ?_; rintro e w4 ⟨rfl, hm4, hk4⟩)
            go_roundw
            case rel => exact ⟨k + 1, by omega, by go_num, by rw [HPL.out]; exact HP2.out.turn hm4 (by omega), HKK.out.trans' hk4⟩
            case measure => simp [intOf]; omega
          · have hkl : k = l.length := by omega
            subst hkl
            have HP2 := hide hp2
            have HKK := hide hk2
            clear hp2 hk2
            go_wp2
            rw [HQ.out]
            exact ⟨HKK.out, .inr (.inr ⟨HIN.out, HTW.out, rfl, HP2.out⟩)⟩
end
end Go.Proofs.Ytoghdhjeopcjkaa
