
/- The walks of the reference's NewBitmap, Merge, Holes. Conditions: the bitmaps lie in memory (RbAt). -/
import Derived.Test.YtoghdhjeopcjkaaDoorRb
namespace Go.Proofs.YtoghdhjeopcjkaaDoor
open Go.RowKit Go.Deep

theorem OwnB.form {w : World} {base n : Nat} {v : Value} {f : Nat → Bool} (h : OwnB w base v n f) : ∃ a cap, v = .slice a n cap := by
  rcases h.2 with ⟨rfl, rfl⟩ | ⟨g, cap, cur, rfl, _⟩
  · exact ⟨_, _, rfl⟩
  · exact ⟨_, _, rfl⟩
set_option maxHeartbeats 2000000 in
set_option maxRecDepth 100000 in
theorem rbNew_any (x : Int) (m : Nat) (hm : mn (mx x 0) 1024 = m) (w : World) :
    Calls Tryd.prog 21 #[.int .i64 x] w fun e w' => ∃ rb a cap, e = .returned (.pointer (some ⟨rb, 0, none⟩)) ∧ w.heap.size ≤ rb ∧ RbAt w' w.heap.size rb a cap m (fun _ => false) ∧ Kp [] w w' := by
  obtain ⟨Q, hQ⟩ : ∃ Q : Ending → World → Prop, Q = fun e w' => ∃ rb a cap, e = .returned (.pointer (some ⟨rb, 0, none⟩)) ∧ w.heap.size ≤ rb ∧ RbAt w' w.heap.size rb a cap m (fun _ => false) ∧ Kp [] w w' := ⟨_, rfl⟩
  rw [← hQ]
  have HQ := hide hQ
  clear hQ
  have b1 := mn_le (mx x 0) 1024
  have b2 := mx_le x 0
  have b3 : m ≤ 1024 := by omega
  have hx : ∀ k : Nat, (k < m ↔ (k : Int) < x ∧ k < 1024) := fun k => by omega
  have HX := hide hx
  clear hx
  clear b1 b2 hm
  go_enter Tryd.func21, Tryd.ntmps21
  go_wp2_with fail
  have hb0 : (w.alloc (.cells #[.slice none 0 0] 85)).heap[w.heap.size]? = some (.cells #[.slice none 0 0] 85 (0, 0)) := blk_new _ _
  have hk0 : Kp [] w (w.alloc (.cells #[.slice none 0 0] 85)) := (Kp.refl _ _).alloc _
  have hs0 : w.heap.size < (w.alloc (.cells #[.slice none 0 0] 85)).heap.size := blk_lt hb0
  generalize w.alloc (.cells #[.slice none 0 0] 85) = wa at hb0 hk0 hs0 ⊢
  have HB0 := hide hb0
  have HK0 := hide hk0
  clear hb0 hk0
  go_loopw [4] (fun i wr => ∃ (k cap : Nat) (a : Option Addr), k ≤ m ∧ i = .int .i64 k ∧ wr.heap[w.heap.size]? = some (.cells #[.slice a k cap] 85 (0, 0)) ∧ OwnB wr (w.heap.size + 1) (.slice a k cap) k (fun _ => false) ∧ Kp [] w wr) (fun i _ => m - (intOf i).toNat)
  case atStart => exact ⟨0, 0, none, by omega, rfl, HB0.out, OwnB.nil _ _ _, HK0.out⟩
  case round =>
    obtain ⟨k, cap, a, hk, rfl, hb, hown, hkr⟩ := hrel
    have c0 := blk_cell hb 0
    have f0 := blk_free hb 0
    have hsl := blk_lt hb
    simp only [List.getElem?_toArray, List.getElem?_cons_zero] at c0
    have hxk := HX.out k
    by_cases hlt : k < m
    · obtain ⟨x1, x2⟩ := hxk.1 hlt
      have d1 : decide ((k : Int) < x) = true := by simpa using x1
      have d2 : decide ((k : Int) < 1024) = true := by simp; omega
      have hlts := hown.lt
      have HO := hide hown
      have HB := hide hb
      have HKR := hide hkr
      have HLT := hide hlts
      clear hown hb hkr hlts
      clear hxk
      have hst : ∀ (w6 : World), World.grownBy (wr.alloc (.cells #[.bool false] 4)) w6 (Value.slice a k cap).ownBlock → Kp [] w w6 ∧ w6.heap[w.heap.size]? = some (.cells #[.slice a k cap] 85 (0, 0)) ∧ w6.frozen? ⟨w.heap.size, 0, none⟩ = false ∧ w6.cell? ⟨w.heap.size, 0, none⟩ = some (.slice a k cap) ∧ w.heap.size < w6.heap.size := by
        intro w6 hgr
        have hb6 : w6.heap[w.heap.size]? = some (.cells #[.slice a k cap] 85 (0, 0)) := (hgr.block _ (by simp; omega) (fun e => by have := HLT.out _ e.symm; omega)).trans (blk_alloc HB.out _)
        exact ⟨(HKR.out.alloc _).grown hgr (fun x hx => .inr (by have := HLT.out x hx; omega)), hb6, blk_free hb6 0, by rw [blk_cell hb6]; rfl, blk_lt hb6⟩
      have HST := hide hst
      clear hst
      go_wp2_with (at_builtin; refine app_bool rfl _ _ rfl (w.heap.size + 1) (.slice a k cap) k (fun _ => false) rfl (HO.out.keep ((Kp.refl [] _).alloc _) (by simp)) _ false rfl _ rfl (blk_new' (by simp) _) (by omega) (by simp; omega) ?_; intro v' w6 hown6 hgr; obtain ⟨a', cap', rfl⟩ := hown6.form; obtain ⟨hk6, hb6, f6, c6, hl6⟩ := HST.out _ hgr; have HO6 := hide hown6; have HK6 := hide hk6; have HB6 := hide hb6; clear hown6 hgr hk6 hb6)
      go_roundw
      case rel =>
        exact ⟨k + 1, cap', a', by omega, by go_num, blk_set HB6.out _, HO6.out.keep ((Kp.refl [w.heap.size] _).set (by simp) _) (fun g hg => by have := (HO6.out.lt g hg).1; simp; omega), HK6.out.set (.inr (Nat.le_refl _)) _⟩
      case measure => simp [intOf]; omega
    · obtain rfl : k = m := by omega
      have hrb : RbAt wr w.heap.size w.heap.size a cap k (fun _ => false) := ⟨hb, ownsRow_lower hown (by omega), fun g hg => by have := (hown.lt g hg).1; omega, b3, fun _ _ => rfl⟩
      have HRB := hide hrb
      have HKR := hide hkr
      clear hrb hkr
      clear hb hown
      by_cases hx1 : (k : Int) < x
      · have e1 : decide ((k : Int) < 1024) = false := by have := hxk.2; simp at this; simp; omega
        go_wp2_with fail
        rw [HQ.out]
        exact ⟨_, a, cap, rfl, Nat.le_refl _, HRB.out, HKR.out⟩
      · go_wp2_with fail
        rw [HQ.out]
        exact ⟨_, a, cap, rfl, Nat.le_refl _, HRB.out, HKR.out⟩

/-- The least from j below n that has p. -/
def LeastFrom (p : Nat → Bool) (j n : Nat) (v : Int) : Prop := (v = -1 ∧ ∀ i, j ≤ i → i < n → p i = false) ∨ ∃ i : Nat, v = i ∧ j ≤ i ∧ i < n ∧ p i = true ∧ ∀ l, j ≤ l → l < i → p l = false
theorem LeastFrom.start (p : Nat → Bool) (n : Nat) : LeastFrom p n n (-1) := .inl ⟨rfl, fun i h1 h2 => by omega⟩
theorem LeastFrom.done {p : Nat → Bool} {n : Nat} {v : Int} (h : LeastFrom p 0 n v) : IsLeast p n v := by
  rcases h with ⟨h1, h2⟩ | ⟨i, h1, _, h2, h3, h4⟩
  · exact .inl ⟨h1, fun i hi => h2 i (by omega) hi⟩
  · exact .inr ⟨i, h1, h2, h3, fun j hj => h4 j (by omega) hj⟩
theorem LeastFrom.skip {p : Nat → Bool} {j n : Nat} {v : Int} (h : LeastFrom p (j + 1) n v) (hp : p j = false) : LeastFrom p j n v := by
  rcases h with ⟨h1, h2⟩ | ⟨i, h1, h0, h2, h3, h4⟩
  · refine .inl ⟨h1, fun i hi hn => ?_⟩
    by_cases e : i = j
    · rw [e]; exact hp
    · exact h2 i (by omega) hn
  · refine .inr ⟨i, h1, by omega, h2, h3, fun l hl hn => ?_⟩
    by_cases e : l = j
    · rw [e]; exact hp
    · exact h4 l (by omega) hn
theorem LeastFrom.take {p : Nat → Bool} {j n : Nat} (hj : j < n) (hp : p j = true) : LeastFrom p j n (j : Int) := .inr ⟨j, rfl, Nat.le_refl _, hj, hp, fun l h1 h2 => by omega⟩
theorem LeastFrom.bd {p : Nat → Bool} {j n : Nat} {v : Int} (h : LeastFrom p j n v) : v ≤ n := by
  rcases h with ⟨rfl, _⟩ | ⟨i, rfl, _, h2, _⟩ <;> omega
/-- What a merge from above has marked. -/
def mgr (on oo : Nat → Bool) (n j : Nat) : Nat → Bool := fun i => on i || (decide (j ≤ i) && decide (i < n) && oo i)
theorem mgr_start {on oo : Nat → Bool} {n : Nat} : mgr on oo n n = on := by
  funext i; simp only [mgr]
  by_cases e : n ≤ i
  · rw [show decide (i < n) = false by simp; omega]; simp
  · rw [show decide (n ≤ i) = false by simp; omega]; simp
theorem mgr_done {on oo : Nat → Bool} {n : Nat} : mgr on oo n 0 = fun i => on i || cap2 n oo i := by
  funext i; simp [mgr, cap2, Bool.and_comm]
theorem mgr_below {on oo : Nat → Bool} {n j i : Nat} (h : i < j) : mgr on oo n j i = on i := by
  simp only [mgr]; rw [show decide (j ≤ i) = false by simp; omega]; simp
theorem mgr_on {on oo : Nat → Bool} {n j : Nat} (hj : j < n) (ho : oo j = true) : put (mgr on oo n (j + 1)) j true = mgr on oo n j := by
  funext i
  by_cases e : i = j
  · subst e; rw [put_same]; simp [mgr, ho, hj]
  · rw [put_other _ e]; simp only [mgr]; congr 3; rw [decide_eq_decide]; omega
theorem mgr_off {on oo : Nat → Bool} {n j : Nat} (ho : oo j = false) : mgr on oo n (j + 1) = mgr on oo n j := by
  funext i
  by_cases e : i = j
  · subst e; simp [mgr, ho]
  · simp only [mgr]; congr 3; rw [decide_eq_decide]; omega

section
variable {w : World} {base rb cap n : Nat} {a : Option Addr} {on : Nat → Bool}
def blks (a : Option Addr) : List Nat := (a.map (·.block)).toList
def RbOth (w : World) (rb : Nat) (a : Option Addr) (on : Nat → Bool) (ob : Nat) (oo : Nat → Bool) : Prop :=
  (ob = rb ∧ oo = on) ∨ ∃ ba oa oc no, ob ∉ blks a ∧ (∀ g, (Value.slice oa no oc).ownBlock = some g → g ∉ blks a) ∧ RbAt w ba ob oa oc no oo
theorem RbOth.has {ob j : Nat} {oo : Nat → Bool} {wr : World} (h : RbOth w rb a on ob oo) (hm : RbAt wr base rb a cap n (mgr on oo n (j + 1))) (hk : Kp (blks a) w wr) :
    Calls Tryd.prog 23 #[.pointer (some ⟨ob, 0, none⟩), .int .i64 j] wr fun e w' => e = .returned (.bool (oo j)) ∧ wr = w' := by
  rcases h with ⟨rfl, rfl⟩ | ⟨ba, oa, oc, no, h1, h2, h3⟩
  · refine (rbHas_any hm j).mono ?_
    rintro e w1 ⟨rfl, rfl⟩
    exact ⟨by simp [mgr_below], rfl⟩
  · refine (rbHas_any (h3.keep hk h1 h2) j).mono ?_
    rintro e w1 ⟨rfl, rfl⟩
    exact ⟨by simp, rfl⟩
def RMerged (w : World) (base rb : Nat) (a : Option Addr) (cap n : Nat) (on oo : Nat → Bool) (e : Ending) (w' : World) : Prop :=
  ∃ v, e = .returned (.int .i64 v) ∧ IsLeast (bothOn on oo) n v ∧ RbAt w' base rb a cap n (fun i => on i || cap2 n oo i) ∧ Kp (blks a) w w'
theorem rbMerge_nil (w : World) (rb : Nat) :
    Calls Tryd.prog 25 #[.pointer (some ⟨rb, 0, none⟩), .pointer none] w fun e w' => e = .returned (.int .i64 (-1)) ∧ w = w' := by
  go_enter Tryd.func25, Tryd.ntmps25
  go_wp2
  go_ret
  exact ⟨rfl, rfl⟩
set_option maxHeartbeats 2000000 in
set_option maxRecDepth 100000 in
theorem rbMerge_any {ob : Nat} {oo : Nat → Bool} (h : RbAt w base rb a cap n on) (ho : RbOth w rb a on ob oo) :
    Calls Tryd.prog 25 #[.pointer (some ⟨rb, 0, none⟩), .pointer (some ⟨ob, 0, none⟩)] w (RMerged w base rb a cap n on oo) := by
  obtain ⟨Q, hQ⟩ : ∃ Q, Q = RMerged w base rb a cap n on oo := ⟨_, rfl⟩
  rw [← hQ]
  have c0 := h.c
  have hn := h.nle
  have h0 : RbAt w base rb a cap n (mgr on oo n n) := by rw [mgr_start]; exact h
  have H := hide h
  have HO := hide ho
  have HQ := hide hQ
  have H0 := hide h0
  clear h ho hQ h0
  go_enter Tryd.func25, Tryd.ntmps25
  go_wp2_with fail
  clear c0
  have ei : ∀ z : Int, z = (n : Int) - 1 → z = (n : Int) - 1 := fun _ h => h
  go_loopw [5, 6] (fun v i wr => ∃ (j : Nat) (u : Int), j ≤ n ∧ i = .int .i64 ((j : Int) - 1) ∧ v = .int .i64 u ∧ LeastFrom (bothOn on oo) j n u ∧ RbAt wr base rb a cap n (mgr on oo n j) ∧ Kp (blks a) w wr) (fun _ i _ => (intOf i + 1).toNat)
  case atStart => exact ⟨n, -1, by omega, by first | rfl | go_num, rfl, LeastFrom.start _ _, H0.out, Kp.refl _ _⟩
  case round =>
    obtain ⟨j, u, hj, rfl, rfl, hle, hr, hkr⟩ := hrel
    have c0 := hr.c
    cases j with
    | zero =>
      have hres : RMerged w base rb a cap n on oo (.returned (.int .i64 u)) wr := ⟨u, rfl, hle.done, hr.congr mgr_done, hkr⟩
      have HRES := hide hres
      clear hres
      clear hle hr hkr
      go_wp2_with fail
      rw [HQ.out]
      exact HRES.out
    | succ j =>
      have e1 : ((j + 1 : Nat) : Int) - 1 = (j : Int) := by omega
      rw [e1]
      have d1 : decide ((0 : Int) ≤ (j : Int)) = true := by simp
      have i2 : (j : Int) < (n : Int) := by omega
      obtain ⟨g, hg, hc, hf, hgr, hgb, hgl⟩ := hr.at_ (i := j) (by omega)
      subst hg
      have cj := hc j (by omega)
      have fj := hf j
      rw [mgr_below (by omega)] at cj
      have hhas := HO.out.has hr hkr
      obtain ⟨q, hq⟩ : ∃ q, oo j = q := ⟨_, rfl⟩
      obtain ⟨t, ht⟩ : ∃ t, on j = t := ⟨_, rfl⟩
      have hb : bothOn on oo j = (t && q) := by simp only [bothOn]; rw [hq, ht]
      rw [hq] at hhas
      rw [ht] at cj
      clear e1 hc hf
      have HQJ := hide hq
      have HTJ := hide ht
      have HB := hide hb
      have HLE := hide hle
      have HR := hide hr
      have HKR := hide hkr
      have HHAS := hide hhas
      clear hq ht hb hle hr hkr hhas
      cases q with
      | false =>
        have hl2 := HLE.out.skip (by rw [HB.out]; simp)
        have hr2 := HR.out.congr (mgr_off HQJ.out)
        have HL2 := hide hl2
        have HR2 := hide hr2
        clear hl2 hr2
        go_wp2_with (go_at_call 23; refine HHAS.out.mono ?_; rintro e w1 ⟨rfl, rfl⟩)
        go_roundw
        case rel => exact ⟨j, u, by omega, by go_num, rfl, HL2.out, HR2.out, HKR.out⟩
        case measure => simp [intOf]
      | true =>
        have hr2 := (HR.out.turn (i := j) true rfl (by omega)).congr (mgr_on (by omega) HQJ.out)
        have hk2 := HKR.out.set (p := ⟨g, j, none⟩) (.inl (by simp [blks])) (.bool true)
        cases t with
        | false =>
          have hl2 := HLE.out.skip (by rw [HB.out]; simp)
          have HL2 := hide hl2
          have HR2 := hide hr2
          have HK2 := hide hk2
          clear hl2 hr2 hk2
          go_wp2_with (go_at_call 23; refine HHAS.out.mono ?_; rintro e w1 ⟨rfl, rfl⟩)
          go_roundw
          case rel => exact ⟨j, u, by omega, by go_num, rfl, HL2.out, HR2.out, HK2.out⟩
          case measure => simp [intOf]
        | true =>
          have hl2 := LeastFrom.take (p := bothOn on oo) (j := j) (n := n) (by omega) (by rw [HB.out]; simp)
          have HL2 := hide hl2
          have HR2 := hide hr2
          have HK2 := hide hk2
          clear hl2 hr2 hk2
          go_wp2_with (go_at_call 23; refine HHAS.out.mono ?_; rintro e w1 ⟨rfl, rfl⟩)
          go_roundw
          case rel => exact ⟨j, j, by omega, by go_num, rfl, HL2.out, HR2.out, HK2.out⟩
          case measure => simp [intOf]
end
end Go.Proofs.YtoghdhjeopcjkaaDoor
