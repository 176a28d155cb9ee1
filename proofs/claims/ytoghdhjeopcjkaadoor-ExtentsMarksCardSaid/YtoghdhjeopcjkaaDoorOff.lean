
/- The contracts of NewPool, Give and the small helpers over slices that begin anywhere in their array. Conditions: the slices are read as told. -/
import Derived.Test.YtoghdhjeopcjkaaDoorHelp
import Derived.Test.YtoghdhjeopcjkaaDoorSlS
namespace Go.Proofs.YtoghdhjeopcjkaaDoor
open Go.RowKit

/-- A slice of spans that is read, wherever it begins. -/
def RdSO (w : World) (v : Value) (l : Sps) : Prop :=
  ∃ a cap, v = .slice a l.length cap ∧ (l = [] ∨ ∃ g o, a = some ⟨g, o, none⟩ ∧ ∀ i, i < l.length → w.cell? ⟨g, o + i * 2, none⟩ = some (.int .i64 (fr l i)) ∧ w.cell? ⟨g, o + i * 2 + 1, none⟩ = some (.int .i64 (ct l i)))
def RdIO (w : World) (v : Value) (l : List Int) : Prop :=
  ∃ a cap, v = .slice a l.length cap ∧ (l = [] ∨ ∃ g o, a = some ⟨g, o, none⟩ ∧ ∀ i, i < l.length → w.cell? ⟨g, o + i, none⟩ = some (.int .i64 (gi l i)))
theorem RdS.o {w : World} {v : Value} {l : Sps} (h : RdS w v l) : RdSO w v l := by
  obtain ⟨a, cap, rfl, h | ⟨g, rfl, h⟩⟩ := h
  · exact ⟨_, _, rfl, .inl h⟩
  · exact ⟨_, _, rfl, .inr ⟨g, 0, rfl, fun i hi => by simpa using h i hi⟩⟩
theorem RdI.o {w : World} {v : Value} {l : List Int} (h : RdI w v l) : RdIO w v l := by
  obtain ⟨a, cap, rfl, h | ⟨g, rfl, h⟩⟩ := h
  · exact ⟨_, _, rfl, .inl h⟩
  · exact ⟨_, _, rfl, .inr ⟨g, 0, rfl, fun i hi => by simpa using h i hi⟩⟩
theorem RdSO.keep {S : List Nat} {w w' : World} {v : Value} {l : Sps} (h : RdSO w v l) (k : Kp S w w') (hS : ∀ b, v.ownBlock = some b → b ∉ S) : RdSO w' v l := by
  obtain ⟨a, cap, rfl, h | ⟨g, o, rfl, h⟩⟩ := h
  · exact ⟨_, _, rfl, .inl h⟩
  · exact ⟨_, _, rfl, .inr ⟨g, o, rfl, fun i hi => ⟨k.cell (h i hi).1 (hS _ rfl), k.cell (h i hi).2 (hS _ rfl)⟩⟩⟩
theorem RdIO.keep {S : List Nat} {w w' : World} {v : Value} {l : List Int} (h : RdIO w v l) (k : Kp S w w') (hS : ∀ b, v.ownBlock = some b → b ∉ S) : RdIO w' v l := by
  obtain ⟨a, cap, rfl, h | ⟨g, o, rfl, h⟩⟩ := h
  · exact ⟨_, _, rfl, .inl h⟩
  · exact ⟨_, _, rfl, .inr ⟨g, o, rfl, fun i hi => k.cell (h i hi) (hS _ rfl)⟩⟩

theorem RdIO.keep2 {S : List Nat} {w w' : World} {v : Value} {l : List Int} (h : RdIO w v l) (k : Kp S w w') (hS : l ≠ [] → ∀ b, v.ownBlock = some b → b ∉ S) : RdIO w' v l := by
  by_cases e : l = []
  · subst e
    obtain ⟨a, cap, rfl, _⟩ := h
    exact ⟨_, _, rfl, .inl rfl⟩
  · exact h.keep k (hS e)
set_option maxHeartbeats 1000000 in
theorem sameSpans_eqO {w : World} {v1 v2 : Value} {l : Sps} (h1 : RdSO w v1 l) (h2 : RdSO w v2 l) (hlen : l.length ≤ 140737488355328) :
    Calls Tryd.prog 26 #[v1, v2] w fun e w' => e = .returned (.bool true) ∧ ∃ k, w' = w.drewN k := by
  obtain ⟨a1, c1, rfl, h1⟩ := h1
  obtain ⟨a2, c2, rfl, h2⟩ := h2
  have sn := span_neq
  generalize hn : l.length = n at *
  have H1 := hide h1
  have H2 := hide h2
  have HN := hide hn
  clear h1 h2 hn
  go_enter Tryd.func26, Tryd.ntmps26
  go_wp2
  go_loopw [5] (fun i wr => ∃ k : Nat, k ≤ n ∧ i = .int .i64 k ∧ ∃ m, wr = w.drewN m) (fun i _ => n - (intOf i).toNat)
  case atStart => exact ⟨0, by omega, rfl, 0, rfl⟩
  case round =>
    obtain ⟨k, hk, rfl, m, rfl⟩ := hrel
    by_cases hlt : k < n
    · rcases H1.out with e | ⟨g1, o1, rfl, g⟩
      · have := HN.out; subst e; simp at this; omega
      rcases H2.out with e | ⟨g2, o2, rfl, g'⟩
      · have := HN.out; subst e; simp at this; omega
      obtain ⟨q1, q2⟩ := g k hlt
      obtain ⟨q3, q4⟩ := g' k hlt
      generalize fr l k = f at q1 q3
      generalize ct l k = c at q2 q4
      clear g g'
      go_wp2
      go_quiet (fail)
      go_wp2
      go_roundw
      case rel => exact ⟨k + 1, by omega, by go_num, _, rfl⟩
      case measure => simp [intOf]; omega
    · go_wp2
      go_ret
      exact ⟨rfl, _, rfl⟩


set_option maxHeartbeats 2000000 in
set_option maxRecDepth 100000 in
theorem newPool_anyO (S : Sh) (ok : S.Ok) (v : Value) (l : Sps) (w : World) (hv : RdSO w v l) (hlen : l.length ≤ 140737488355328) :
    Calls Tryd.prog 15 #[.agg #[.int .i64 S.pages, .int .i64 S.inodes, .int .i64 S.cores, .int .i64 S.data], v] w (NewPoolPost S l w) := by
  obtain ⟨a, cap, rfl, hrd⟩ := hv
  have HF := fits_ok ok
  obtain ⟨hf1, hf2⟩ := HF
  obtain ⟨Q, hQ⟩ : ∃ Q, Q = NewPoolPost S l w := ⟨_, rfl⟩
  rw [← hQ]
  have kmx := run_mx
  have hm : mn (mx (S.pages : Int) 0) 1024 = S.pages := by have := mx_le (S.pages : Int) 0; have := mn_le (mx (S.pages : Int) 0) 1024; have := ok.p2; omega
  have OK := hide ok
  have o1 := ok.p2
  have HF1 := hide hf1
  have HF2 := hide hf2
  have HR := hide hrd
  have HM := hide hm
  have HQ := hide hQ
  clear hf1 hf2 hrd hm hQ
  clear ok
  go_enter Tryd.func15, Tryd.ntmps15
  go_wp2_with (go_at_call 34; refine (fit_yes _ _ _ HF1.out _).mono ?_; rw [HF2.out]; rintro e w1 ⟨rfl, hk1⟩; have hb0 := hk1.blk (blk_new _ _) (by simp); have hlt := blk_lt hb0; have hc := blk4 hb0; obtain ⟨d0, d1, d2, d3⟩ := hc; have HK1 := hide hk1; have HB0 := hide hb0; clear hb0 hk1)
  go_region_held3 (fun w' => w'.cell? ⟨w.heap.size, 0, none⟩ = some (.int .i64 S.pages) ∧ w'.cell? ⟨w.heap.size, 1, none⟩ = some (.int .i64 S.inodes) ∧ w'.cell? ⟨w.heap.size, 2, none⟩ = some (.int .i64 S.cores) ∧ w'.cell? ⟨w.heap.size, 3, none⟩ = some (.int .i64 S.data))
    (first | exact ⟨q0, q1, q2, q3⟩ | exact blk4 (blk_alloc hb2 _) | exact blk4 (blk_alloc HB0.out _))
    (first
      | (go_at_call 28; refine (newMarks_any _ S.pages HM.out _).mono ?_; rintro e w2 ⟨wb, rfl, hwb, hwbk, hk2⟩; have hb2 := hk2.blk (blk_alloc HB0.out _) (by simp); have hlt2 := blk_lt hb2; have kq := blk4 hb2; obtain ⟨q0, q1, q2, q3⟩ := kq))
  have hwb2 : w1.heap.size + 1 ≤ wb := by simpa using hwb
  have HB2 := hide hb2
  have HW := hide hwbk
  have HK2 := hide hk2
  clear hb2 hwbk hk2 d0 d1 d2 d3 kmx
  go_wp2
  go_loopw [9, 41] (fun nxt i wr => ∃ k : Nat, k ≤ l.length ∧ i = .int .i64 k ∧ nxt = .int .i64 (nx S l k) ∧ goodTo S l k ∧ PoolAt wr w2.heap.size wb ((S.pages + 63) / 64) S (onOf l k) ∧ Kp [] w wr ∧
      wr.heap[w.heap.size]? = some (.cells #[.int .i64 S.pages, .int .i64 S.inodes, .int .i64 S.cores, .int .i64 S.data] 38 (0, 0))) (fun _ i _ => l.length - (intOf i).toNat)
  case atStart =>
    have g1 : Kp [] w w2 := ((Kp.refl [] w).alloc _).trans' (HK1.out.trans' ((Kp.refl [] w1).alloc _ |>.trans' (((Kp.refl [] _).drewN 1).trans' HK2.out)))
    refine ⟨0, by omega, rfl, rfl, fun j hj => by omega, ?_, ?_, ?_⟩
    · refine new_marks_at HW.out rfl OK.out (blk_new' (by simp) _) ?_ ?_
      · exact blk_alloc HW.out _ |>.trans HW.out.symm
      · have := blk_lt HW.out; omega
    · exact g1.alloc _
    · exact blk_alloc HB2.out _
  case round =>
    obtain ⟨wo, rfl⟩ : ∃ wo : World, wo = wr := ⟨_, rfl⟩
    obtain ⟨k, hk, rfl, rfl, hgood, hpool, hkp, hshape⟩ := hrel
    by_cases hlt : k < l.length
    · rcases HR.out with hnil | ⟨g, o, rfl, hrd⟩
      · subst hnil; simp at hlt
      have hc := hrd k hlt
      have hc1 := hkp.cell hc.1 (by simp)
      have hc2 := hkp.cell hc.2 (by simp)
      have hs := blk4 hshape
      obtain ⟨s0, s1, s2, s3⟩ := hs
      have hsl := blk_lt hshape
      have hnx := (onOf_below k hgood).1
      have hnext : nx S l (k + 1) = fr l k + ct l k := rfl
      have hall : ¬ goodAt S l k → ¬ goodTo S l l.length := fun h1 h2 => h1 (h2 k hlt)
      generalize hf : fr l k = f at hc1 hnext
      generalize hcc : ct l k = c at hc2 hnext
      generalize hx : nx S l k = x at hnx
      have hga : goodAt S l k ↔ (1 ≤ c ∧ x ≤ f ∧ f < S.pages ∧ c ≤ S.pages - f) := by unfold goodAt; rw [hf, hcc, hx]
      have HGA := hide hga
      have HALL := hide hall
      have HSH := hide hshape
      have HNX := hide hnext
      have HGOOD := hide hgood
      have HPOOL := hide hpool
      have HKP := hide hkp
      have HF := hide hf
      have HC := hide hcc
      have HX := hide hx
      clear hc hrd hga hall hshape hnext hpool hkp hf hcc hx hgood
      by_cases t1 : c < 1
      · go_wp2
        rw [HQ.out]
        exact ⟨HKP.out.alloc _, .inr ⟨HALL.out (by rw [HGA.out]; omega), rfl⟩⟩
      by_cases t2 : f < x
      · go_wp2
        rw [HQ.out]
        exact ⟨HKP.out.alloc _, .inr ⟨HALL.out (by rw [HGA.out]; omega), rfl⟩⟩
      by_cases t3 : (S.pages : Int) ≤ f
      · go_wp2
        rw [HQ.out]
        exact ⟨HKP.out.alloc _, .inr ⟨HALL.out (by rw [HGA.out]; omega), rfl⟩⟩
      by_cases t4 : (S.pages : Int) - f < c
      · go_wp2
        rw [HQ.out]
        exact ⟨HKP.out.alloc _, .inr ⟨HALL.out (by rw [HGA.out]; omega), rfl⟩⟩
      have hgk : goodAt S l k := by rw [HGA.out]; omega
      have HGK := hide hgk
      obtain ⟨f, rfl⟩ := Int.eq_ofNat_of_zero_le (show 0 ≤ f by omega)
      obtain ⟨c, rfl⟩ := Int.eq_ofNat_of_zero_le (show 0 ≤ c by omega)
      have hwoL := HPOOL.out.m.lt
      have hwoW := HPOOL.out.m.wlt
      have hfd : S.data ≤ f := by omega
      have hfp : f + c ≤ S.pages := by omega
      have hoff : ∀ i, f ≤ i → onOf l k i = false := by
        intro i hi
        have := (onOf_below k HGOOD.out).2 i
        rw [HX.out] at this
        cases h : onOf l k i with
        | false => rfl
        | true => have := this h; omega
      have HOFF := hide hoff
      clear hgk hoff q0 q1 q2 q3
      go_wp2
      clear t1 t2 t3 t4
      go_loopw [78] (fun i wr => ∃ j : Nat, j ≤ c ∧ i = .int .i64 j ∧ PoolAt wr w2.heap.size wb ((S.pages + 63) / 64) S (addTo (onOf l k) f j) ∧ Kp [w2.heap.size, wb] (wo.alloc (.cells #[.int .i64 f, .int .i64 c] 63)) wr) (fun i _ => c - (intOf i).toNat)
      case atStart => exact ⟨0, by omega, rfl, by rw [addTo_zero]; exact HPOOL.out.keep ((Kp.refl [] _).alloc _) (by simp) (by simp), Kp.refl _ _⟩
      case round =>
        obtain ⟨j, hj, rfl, hp2, hk2⟩ := hrel
        by_cases hjc : j < c
        · have hxb := hk2.blk (blk_new _ _) (by simp; omega)
          have hxc := blk2 hxb
          obtain ⟨x0, x1⟩ := hxc
          have ew : IntKind.i64.wrap ((f : Int) + (j : Int)) = ((f + j : Nat) : Int) := by rw [IntKind.wrap_i64]; omega
          have hoff2 : addTo (onOf l k) f j (f + j) = false := by simp [addTo, HOFF.out (f + j) (by omega)]
          have HP2 := hide hp2
          have HK2 := hide hk2
          have HO2 := hide hoff2
          clear hp2 hk2 hoff2
          clear hxb
          go_wp2
          refine wp_region_still_tail 7 (by kernel_rfl) (by kernel_rfl) ?_
          simp only [List.take_succ_cons, List.take_zero, List.drop_succ_cons, List.drop_zero]
          change wpStill _ _ (World.drew _) _ _ _
          repeat (refine wpStill_step (fun K hK => ?_); go_simp; refine hK _ ?_; clear hK K)
          refine wpStill_nil ?_
          change wpList _ _ _ _ _ (World.drewN _ 1)
          go_wp2_with (go_at_call 29; refine (mset_any (HP2.out.m.drewN 1) (f + j) (by omega) HO2.out).mono ?_; rintro e w3 ⟨rfl, hm3, hk3⟩)
          go_roundw
          case rel =>
            have hm4 := HP2.out.turn hm3 (by omega)
            rw [addTo_succ] at hm4
            exact ⟨j + 1, by omega, by go_num, hm4, HK2.out.trans' ((Kp.refl _ _).drewN 1 |>.trans' hk3)⟩
          case measure => simp [intOf]; omega
        · have hjc : j = c := by omega
          subst hjc
          go_wp2
          have hon : onOf l (k + 1) = addTo (onOf l k) f j := by simp only [onOf]; rw [HF.out, HC.out]; simp
          go_roundw
          case rel => exact ⟨k + 1, by omega, by go_num, by rw [HNX.out], goodTo_succ HGOOD.out HGK.out, by rw [hon]; exact hp2,
            (HKP.out.alloc _).trans hk2 (by simp; omega), hk2.blk (blk_alloc HSH.out _) (by simp; omega)⟩
          case measure => simp [intOf]; omega
    · have hkl : k = l.length := by omega
      subst hkl
      go_wp2
      rw [HQ.out]
      exact ⟨hkp, .inl ⟨hgood, _, _, _, rfl, by have := HK1.out.size; simp at this; omega, by have := HK1.out.size; simp at this; omega, hpool⟩⟩

section
variable {w : World} {b wb cap : Nat} {on : Nat → Bool} {S : Sh}
end
end Go.Proofs.YtoghdhjeopcjkaaDoor
