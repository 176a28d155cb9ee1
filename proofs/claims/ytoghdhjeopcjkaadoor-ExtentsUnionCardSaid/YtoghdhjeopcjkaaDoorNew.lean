
/- The walks of newMarks and NewPool, and of the law's place makers. Conditions: none but those of each contract. -/
import Derived.Test.YtoghdhjeopcjkaaDoorPool2
import Derived.Deep.RegionHeld3
namespace Go.Proofs.YtoghdhjeopcjkaaDoor
open Go.RowKit Go.Deep

theorem Tryd.info_u64 : (Tryd.prog.info? 73).map (fun i => (i.zero, i.size, i.bytes)) = some (some (.int .u64 0), 1, 8) := by kernel_rfl
theorem made_at (z : Value) (n k : Nat) (h : k < n) : (madeCells #[z] n)[k]? = some z := by simp [madeCells, h, Nat.mod_one]

set_option maxRecDepth 100000 in
theorem newMarks_any (n : Int) (m : Nat) (hm : mn (mx n 0) 1024 = m) (w : World) :
    Calls Tryd.prog 28 #[.int .i64 n] w fun e w' => ∃ wb, e = .returned (.agg #[.int .i64 m, .int .i64 0, .slice (some ⟨wb, 0, none⟩) ((m + 63) / 64) ((m + 63) / 64)]) ∧
      w.heap.size ≤ wb ∧ w'.heap[wb]? = some (.cells (madeCells #[.int .u64 0] ((m + 63) / 64)) 73 (0, 0)) ∧ Kp [] w w' := by
  have kmx := run_mx
  have kmn := run_mn
  have b1 := mn_le (mx n 0) 1024
  have b2 := mx_le n 0
  have b3 : m ≤ 1024 := by omega
  obtain ⟨k, hk⟩ : ∃ k, (m + 63) / 64 = k := ⟨_, rfl⟩
  have hk2 : ((m : Int) + 64 - 1) / 64 = (k : Int) := by omega
  have hmk := run_make_row' (P := Tryd.prog) 67 73 (.int .u64 0) 8 Tryd.underlying67 Tryd.info_u64 rfl .i64 .i64 k (by omega) (by omega)
  rw [hk]
  clear b1 b2 hk
  go_enter Tryd.func28, Tryd.ntmps28
  go_wp2
  refine bodyPost_ret (v := .agg #[.int .i64 m, .int .i64 0, .slice (some ⟨w.heap.size + 1, 0, none⟩) k k]) (by simp [results, Tryd.results28, go_sem]) rfl ⟨w.heap.size + 1, rfl, by omega, ?_, ?_⟩
  · exact blk_new' (by simp) _
  · repeat (first | exact Kp.refl _ _ | apply Kp.drewN | apply Kp.drew | apply Kp.alloc | (refine Kp.set ?_ (.inr (Nat.le_refl _)) _))

/-- Marks f, .., f + j - 1 besides. -/
def addTo (on : Nat → Bool) (f j : Nat) : Nat → Bool := fun i => on i || (decide (f ≤ i) && decide (i < f + j))
theorem addTo_zero (on : Nat → Bool) (f : Nat) : addTo on f 0 = on := by
  funext i; simp only [addTo]; rw [show (decide (f ≤ i) && decide (i < f + 0)) = false by simp]; simp
theorem addTo_succ (on : Nat → Bool) (f j : Nat) : put (addTo on f j) (f + j) true = addTo on f (j + 1) := by
  funext i
  by_cases e : i = f + j
  · subst e; simp [put, addTo]
  · simp only [put, addTo, if_neg e]
    congr 2
    rw [decide_eq_decide]; omega
/-- What the next span may begin with. -/
def nx (S : Sh) (l : Sps) : Nat → Int
  | 0 => S.data
  | k + 1 => fr l k + ct l k
def goodAt (S : Sh) (l : Sps) (k : Nat) : Prop := 1 ≤ ct l k ∧ nx S l k ≤ fr l k ∧ fr l k < S.pages ∧ ct l k ≤ S.pages - fr l k
def goodTo (S : Sh) (l : Sps) (k : Nat) : Prop := ∀ j, j < k → goodAt S l j
theorem goodTo_succ {S : Sh} {l : Sps} {k : Nat} (h : goodTo S l k) (h1 : goodAt S l k) : goodTo S l (k + 1) := by
  intro j hj
  by_cases e : j = k
  · subst e; exact h1
  · exact h j (by omega)
/-- The pages of the first k spans. -/
def onOf (l : Sps) : Nat → Nat → Bool
  | 0 => fun _ => false
  | k + 1 => addTo (onOf l k) (fr l k).toNat (ct l k).toNat
theorem onOf_below {S : Sh} {l : Sps} (k : Nat) (h : goodTo S l k) : (S.data : Int) ≤ nx S l k ∧ ∀ i, onOf l k i = true → S.data ≤ i ∧ (i : Int) < nx S l k := by
  induction k with
  | zero => exact ⟨by simp [nx], fun i hi => by simp [onOf] at hi⟩
  | succ k ih =>
    have h1 := h k (by omega)
    obtain ⟨g1, g2, g3, g4⟩ := h1
    have ⟨i1, i2⟩ := ih fun j hj => h j (by omega)
    refine ⟨by simp only [nx]; omega, fun i hi => ?_⟩
    simp only [onOf, addTo, Bool.or_eq_true, Bool.and_eq_true, decide_eq_true_eq] at hi
    simp only [nx]
    rcases hi with hi | hi
    · have := i2 i hi; omega
    · omega

set_option maxRecDepth 100000 in
/-- NewPool of numbers that make no device. -/
theorem newPool_shape (p i c d : Int) (v : Value) (h : fits p i c = false ∨ d ≠ 4 + i / 8) (w : World) :
    Calls Tryd.prog 15 #[.agg #[.int .i64 p, .int .i64 i, .int .i64 c, .int .i64 d], v] w fun e w' => e = .returned (.tuple #[.pointer none, .int .i64 30]) ∧ Kp [] w w' := by
  cases hf : fits p i c with
  | false =>
    have HF := hide hf
    clear hf
    clear h
    go_enter Tryd.func15, Tryd.ntmps15
    go_wp2_with (go_at_call 34; refine (fit_no _ _ _ HF.out _).mono ?_; rintro e w1 ⟨rfl, hk1⟩)
    go_ret2
    refine ⟨rfl, ?_⟩
    have hk2 := ((Kp.refl [] w).alloc (.cells #[.int .i64 p, .int .i64 i, .int .i64 c, .int .i64 d] 38)).trans' hk1
    exact hk2.alloc _
  | true =>
    have hd : (d == 4 + i / 8) = false := by simp only [hf] at h; simpa using h
    have hd2 : (4 + i / 8 == d) = false := by rw [beq_eq_false_iff_ne] at *; omega
    have HF := hide hf
    clear hf
    clear h
    go_enter Tryd.func15, Tryd.ntmps15
    go_wp2_with (go_at_call 34; refine (fit_yes _ _ _ HF.out _).mono ?_; rintro e w1 ⟨rfl, hk1⟩; have hb0 := hk1.blk (blk_new _ _) (by simp); have hlt := blk_lt hb0; have hc := blk4 hb0; obtain ⟨d0, d1, d2, d3⟩ := hc; have hk1 := hide hk1; clear hb0)
    go_ret2
    refine ⟨rfl, ?_⟩
    have hk2 := ((Kp.refl [] w).alloc (.cells #[.int .i64 p, .int .i64 i, .int .i64 c, .int .i64 d] 38)).trans' hk1.out
    exact hk2.alloc _

theorem fits_ok {S : Sh} (h : S.Ok) : fits S.pages S.inodes S.cores = true ∧ (4 : Int) + (S.inodes : Int) / 8 = S.data := by
  obtain ⟨p1, p2, i1, i2, i3, c1, c2, d1, d2⟩ := h
  refine ⟨?_, by omega⟩
  simp only [fits, Bool.and_eq_true, decide_eq_true_eq, beq_iff_eq, wi_iff]
  omega
/-- What NewPool answers: a pool of just these pages; nothing, if a span is none. -/
def NewPoolPost (S : Sh) (l : Sps) (w : World) (e : Ending) (w' : World) : Prop :=
  Kp [] w w' ∧ ((goodTo S l l.length ∧ ∃ pb wb cap, e = .returned (.tuple #[.pointer (some ⟨pb, 0, none⟩), .int .i64 0]) ∧ w.heap.size ≤ pb ∧ w.heap.size ≤ wb ∧ PoolAt w' pb wb cap S (onOf l l.length)) ∨
    (¬ goodTo S l l.length ∧ e = .returned (.tuple #[.pointer none, .int .i64 52])))

theorem cnt_zero' (n : Nat) : cnt (fun _ => false) n = 0 := by
  induction n with
  | zero => rfl
  | succ n ih => simp [cnt, ih]
theorem new_marks_at {w1 w2 : World} {wb m : Nat} {S : Sh} (hw : w1.heap[wb]? = some (.cells (madeCells #[.int .u64 0] ((m + 63) / 64)) 73 (0, 0))) (hS : m = S.pages) (ok : S.Ok)
    {pb : Nat} (hp : w2.heap[pb]? = some (.cells #[.int .i64 m, .int .i64 0, .slice (some ⟨wb, 0, none⟩) ((m + 63) / 64) ((m + 63) / 64), .int .i64 S.pages, .int .i64 S.inodes, .int .i64 S.cores, .int .i64 S.data] 81 (0, 0)))
    (hw2 : w2.heap[wb]? = w1.heap[wb]?) (hne : pb ≠ wb) : PoolAt w2 pb wb ((m + 63) / 64) S (fun _ => false) := by
  subst hS
  have hc : cnt (fun _ => false) S.pages = 0 := by
    generalize S.pages = n
    induction n with
    | zero => rfl
    | succ n ih => simp [cnt, ih]
  refine ⟨⟨?_, ⟨_, hw2.trans hw, fun k hk => ⟨0, made_at _ _ _ hk, word_zero k (fun _ => rfl)⟩⟩, hne, ok.p2, fun _ _ => rfl⟩, ok, fun _ _ => rfl⟩
  rw [hp, hc]
  rfl

theorem PoolAt.turn {w w' : World} {b wb cap : Nat} {S : Sh} {on : Nat → Bool} (h : PoolAt w b wb cap S on) {i : Nat} {v : Bool} (hm : MarksAt w' b wb cap 81 S.vals S.pages (put on i v)) (hi : S.data ≤ i) : PoolAt w' b wb cap S (put on i v) :=
  ⟨hm, h.ok, fun j hj => by rw [put_other _ (by omega)]; exact h.low j hj⟩

set_option maxHeartbeats 2000000 in
set_option maxRecDepth 100000 in
theorem newPool_any (S : Sh) (ok : S.Ok) (v : Value) (l : Sps) (w : World) (hv : RdS w v l) (hlen : l.length ≤ 1099511627776) :
    Calls Tryd.prog 15 #[.agg #[.int .i64 S.pages, .int .i64 S.inodes, .int .i64 S.cores, .int .i64 S.data], v] w (NewPoolPost S l w) := by
  obtain ⟨a, cap, rfl, hrd⟩ := hv
  have HF := fits_ok ok
  obtain ⟨hf1, hf2⟩ := HF
  obtain ⟨Q, hQ⟩ : ∃ Q, Q = NewPoolPost S l w := ⟨_, rfl⟩
  rw [← hQ]
  have kmx := run_mx
  have hm : mn (mx (S.pages : Int) 0) 1024 = S.pages := by have := mx_le (S.pages : Int) 0; have := mn_le (mx (S.pages : Int) 0) 1024; have := ok.p2; omega
  have OK := hide ok
  have o1 := ok.p2
  have HF1 := hide hf1
  have HF2 := hide hf2
  have HR := hide hrd
  have HM := hide hm
  have HQ := hide hQ
  clear hf1 hf2 hrd hm hQ
  clear ok
  go_enter Tryd.func15, Tryd.ntmps15
  go_wp2_with (go_at_call 34; refine (fit_yes _ _ _ HF1.out _).mono ?_; rw [HF2.out]; rintro e w1 ⟨rfl, hk1⟩; have hb0 := hk1.blk (blk_new _ _) (by simp); have hlt := blk_lt hb0; have hc := blk4 hb0; obtain ⟨d0, d1, d2, d3⟩ := hc; have HK1 := hide hk1; have HB0 := hide hb0; clear hb0 hk1)
  go_region_held3 (fun w' => w'.cell? ⟨w.heap.size, 0, none⟩ = some (.int .i64 S.pages) ∧ w'.cell? ⟨w.heap.size, 1, none⟩ = some (.int .i64 S.inodes) ∧ w'.cell? ⟨w.heap.size, 2, none⟩ = some (.int .i64 S.cores) ∧ w'.cell? ⟨w.heap.size, 3, none⟩ = some (.int .i64 S.data))
    (first | exact ⟨q0, q1, q2, q3⟩ | exact blk4 (blk_alloc hb2 _) | exact blk4 (blk_alloc HB0.out _))
    (first
      | (go_at_call 28; refine (newMarks_any _ S.pages HM.out _).mono ?_; rintro e w2 ⟨wb, rfl, hwb, hwbk, hk2⟩; have hb2 := hk2.blk (blk_alloc HB0.out _) (by simp); have hlt2 := blk_lt hb2; have kq := blk4 hb2; obtain ⟨q0, q1, q2, q3⟩ := kq))
  have hwb2 : w1.heap.size + 1 ≤ wb := by simpa using hwb
  have HB2 := hide hb2
  have HW := hide hwbk
  have HK2 := hide hk2
  clear hb2 hwbk hk2 d0 d1 d2 d3 kmx
  go_wp2
  go_loopw [9, 41] (fun nxt i wr => ∃ k : Nat, k ≤ l.length ∧ i = .int .i64 k ∧ nxt = .int .i64 (nx S l k) ∧ goodTo S l k ∧ PoolAt wr w2.heap.size wb ((S.pages + 63) / 64) S (onOf l k) ∧ Kp [] w wr ∧
      wr.heap[w.heap.size]? = some (.cells #[.int .i64 S.pages, .int .i64 S.inodes, .int .i64 S.cores, .int .i64 S.data] 38 (0, 0))) (fun _ i _ => l.length - (intOf i).toNat)
  case atStart =>
    have g1 : Kp [] w w2 := ((Kp.refl [] w).alloc _).trans' (HK1.out.trans' ((Kp.refl [] w1).alloc _ |>.trans' (((Kp.refl [] _).drewN 1).trans' HK2.out)))
    refine ⟨0, by omega, rfl, rfl, fun j hj => by omega, ?_, ?_, ?_⟩
    · refine new_marks_at HW.out rfl OK.out (blk_new' (by simp) _) ?_ ?_
      · exact blk_alloc HW.out _ |>.trans HW.out.symm
      · have := blk_lt HW.out; omega
    · exact g1.alloc _
    · exact blk_alloc HB2.out _
  case round =>
    obtain ⟨wo, rfl⟩ : ∃ wo : World, wo = wr := ⟨_, rfl⟩
    obtain ⟨k, hk, rfl, rfl, hgood, hpool, hkp, hshape⟩ := hrel
    by_cases hlt : k < l.length
    · rcases HR.out with hnil | ⟨g, rfl, hrd⟩
      · subst hnil; simp at hlt
      have hc := hrd k hlt
      have hc1 := hkp.cell hc.1 (by simp)
      have hc2 := hkp.cell hc.2 (by simp)
      have hs := blk4 hshape
      obtain ⟨s0, s1, s2, s3⟩ := hs
      have hsl := blk_lt hshape
      have hnx := (onOf_below k hgood).1
      have hnext : nx S l (k + 1) = fr l k + ct l k := rfl
      have hall : ¬ goodAt S l k → ¬ goodTo S l l.length := fun h1 h2 => h1 (h2 k hlt)
      generalize hf : fr l k = f at hc1 hnext
      generalize hcc : ct l k = c at hc2 hnext
      generalize hx : nx S l k = x at hnx
      have hga : goodAt S l k ↔ (1 ≤ c ∧ x ≤ f ∧ f < S.pages ∧ c ≤ S.pages - f) := by unfold goodAt; rw [hf, hcc, hx]
      have HGA := hide hga
      have HALL := hide hall
      have HSH := hide hshape
      have HNX := hide hnext
      have HGOOD := hide hgood
      have HPOOL := hide hpool
      have HKP := hide hkp
      have HF := hide hf
      have HC := hide hcc
      have HX := hide hx
      clear hc hrd hga hall hshape hnext hpool hkp hf hcc hx hgood
      by_cases t1 : c < 1
      · go_wp2
        rw [HQ.out]
        exact ⟨HKP.out.alloc _, .inr ⟨HALL.out (by rw [HGA.out]; omega), rfl⟩⟩
      by_cases t2 : f < x
      · go_wp2
        rw [HQ.out]
        exact ⟨HKP.out.alloc _, .inr ⟨HALL.out (by rw [HGA.out]; omega), rfl⟩⟩
      by_cases t3 : (S.pages : Int) ≤ f
      · go_wp2
        rw [HQ.out]
        exact ⟨HKP.out.alloc _, .inr ⟨HALL.out (by rw [HGA.out]; omega), rfl⟩⟩
      by_cases t4 : (S.pages : Int) - f < c
      · go_wp2
        rw [HQ.out]
        exact ⟨HKP.out.alloc _, .inr ⟨HALL.out (by rw [HGA.out]; omega), rfl⟩⟩
      have hgk : goodAt S l k := by rw [HGA.out]; omega
      have HGK := hide hgk
      obtain ⟨f, rfl⟩ := Int.eq_ofNat_of_zero_le (show 0 ≤ f by omega)
      obtain ⟨c, rfl⟩ := Int.eq_ofNat_of_zero_le (show 0 ≤ c by omega)
      have hwoL := HPOOL.out.m.lt
      have hwoW := HPOOL.out.m.wlt
      have hfd : S.data ≤ f := by omega
      have hfp : f + c ≤ S.pages := by omega
      have hoff : ∀ i, f ≤ i → onOf l k i = false := by
        intro i hi
        have := (onOf_below k HGOOD.out).2 i
        rw [HX.out] at this
        cases h : onOf l k i with
        | false => rfl
        | true => have := this h; omega
      have HOFF := hide hoff
      clear hgk hoff q0 q1 q2 q3
      go_wp2
      clear t1 t2 t3 t4
      go_loopw [78] (fun i wr => ∃ j : Nat, j ≤ c ∧ i = .int .i64 j ∧ PoolAt wr w2.heap.size wb ((S.pages + 63) / 64) S (addTo (onOf l k) f j) ∧ Kp [w2.heap.size, wb] (wo.alloc (.cells #[.int .i64 f, .int .i64 c] 63)) wr) (fun i _ => c - (intOf i).toNat)
      case atStart => exact ⟨0, by omega, rfl, by rw [addTo_zero]; exact HPOOL.out.keep ((Kp.refl [] _).alloc _) (by simp) (by simp), Kp.refl _ _⟩
      case round =>
        obtain ⟨j, hj, rfl, hp2, hk2⟩ := hrel
        by_cases hjc : j < c
        · have hxb := hk2.blk (blk_new _ _) (by simp; omega)
          have hxc := blk2 hxb
          obtain ⟨x0, x1⟩ := hxc
          have ew : IntKind.i64.wrap ((f : Int) + (j : Int)) = ((f + j : Nat) : Int) := by rw [IntKind.wrap_i64]; omega
          have hoff2 : addTo (onOf l k) f j (f + j) = false := by simp [addTo, HOFF.out (f + j) (by omega)]
          have HP2 := hide hp2
          have HK2 := hide hk2
          have HO2 := hide hoff2
          clear hp2 hk2 hoff2
          clear hxb
          go_wp2
          refine wp_region_still_tail 7 (by kernel_rfl) (by kernel_rfl) ?_
          simp only [List.take_succ_cons, List.take_zero, List.drop_succ_cons, List.drop_zero]
          change wpStill _ _ (World.drew _) _ _ _
          repeat (refine wpStill_step (fun K hK => ?_); go_simp; refine hK _ ?_; clear hK K)
          refine wpStill_nil ?_
          change wpList _ _ _ _ _ (World.drewN _ 1)
          go_wp2_with (go_at_call 29; refine (mset_any (HP2.out.m.drewN 1) (f + j) (by omega) HO2.out).mono ?_; rintro e w3 ⟨rfl, hm3, hk3⟩)
          go_roundw
          case rel =>
            have hm4 := HP2.out.turn hm3 (by omega)
            rw [addTo_succ] at hm4
            exact ⟨j + 1, by omega, by go_num, hm4, HK2.out.trans' ((Kp.refl _ _).drewN 1 |>.trans' hk3)⟩
          case measure => simp [intOf]; omega
        · have hjc : j = c := by omega
          subst hjc
          go_wp2
          have hon : onOf l (k + 1) = addTo (onOf l k) f j := by simp only [onOf]; rw [HF.out, HC.out]; simp
          go_roundw
          case rel => exact ⟨k + 1, by omega, by go_num, by rw [HNX.out], goodTo_succ HGOOD.out HGK.out, by rw [hon]; exact hp2,
            (HKP.out.alloc _).trans hk2 (by simp; omega), hk2.blk (blk_alloc HSH.out _) (by simp; omega)⟩
          case measure => simp [intOf]; omega
    · have hkl : k = l.length := by omega
      subst hkl
      go_wp2
      rw [HQ.out]
      exact ⟨hkp, .inl ⟨hgood, _, _, _, rfl, by have := HK1.out.size; simp at this; omega, by have := HK1.out.size; simp at this; omega, hpool⟩⟩
end Go.Proofs.YtoghdhjeopcjkaaDoor
