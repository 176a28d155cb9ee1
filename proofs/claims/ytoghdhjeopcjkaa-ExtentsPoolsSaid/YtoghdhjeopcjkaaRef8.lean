/- The walks of the reference's NewPool and Copy. Conditions: the slice of spans is read as told. -/
import Derived.Test.YtoghdhjeopcjkaaRef7
import Derived.Test.YtoghdhjeopcjkaaSlI
namespace Go.Proofs.Ytoghdhjeopcjkaa
open Go.RowKit Go.Deep

theorem rNewPool_shape (p i c d : Int) (v : Value) (hi : I64 i) (h : fits p i c = false ∨ d ≠ 4 + i / 8) (w : World) :
    Calls Try.prog 64 #[.agg #[.int .i64 p, .int .i64 i, .int .i64 c, .int .i64 d], v] w fun e w' => e = .returned (.tuple #[.pointer none, .int .i64 30]) ∧ Kp [] w w' := by
  have hg := fun W => goodShape_no p i c d hi h W
  have HG := hide hg
  clear hg
  clear h
  go_enter Try.func64, Try.ntmps64
  go_wp2_with (go_at_call 72; refine (HG.out _).mono ?_; rintro e w1 ⟨rfl, hk1⟩; have HK1 := hide hk1; clear hk1)
  go_ret2
  exact ⟨rfl, ((Kp.refl _ _).alloc _).trans' HK1.out⟩

/-- Where the next span may begin, as the reference counts. -/
def beh (l : Sps) : Nat → Int
  | 0 => 0
  | k + 1 => fr l k + ct l k
def RNewPoolPost (S : Sh) (l : Sps) (w : World) (e : Ending) (w' : World) : Prop :=
  Kp [] w w' ∧ ((goodTo S l l.length ∧ ∃ rb mb, e = .returned (.tuple #[.pointer (some ⟨rb, 0, none⟩), .int .i64 0]) ∧ w.heap.size ≤ rb ∧ w.heap.size ≤ mb ∧ RefAt w' rb mb S.pages S (onOf l l.length)) ∨
    (¬ goodTo S l l.length ∧ e = .returned (.tuple #[.pointer none, .int .i64 52])))
set_option maxHeartbeats 4000000 in
set_option maxRecDepth 100000 in
theorem rNewPool_any (S : Sh) (ok : S.Ok) (v : Value) (l : Sps) (w : World) (hv : RdS w v l) (hlen : l.length ≤ 140737488355328) :
    Calls Try.prog 64 #[.agg #[.int .i64 S.pages, .int .i64 S.inodes, .int .i64 S.cores, .int .i64 S.data], v] w (RNewPoolPost S l w) := by
  obtain ⟨a, cap, rfl, hrd⟩ := hv
  obtain ⟨Q, hQ⟩ : ∃ Q, Q = RNewPoolPost S l w := ⟨_, rfl⟩
  rw [← hQ]
  have o1 := ok.p2; have o4 := ok.d2
  have o2 : 5 ≤ S.data := by have := ok.d1; have := ok.i1; omega
  have HR := hide hrd
  have HQ := hide hQ
  have OK := hide ok
  clear hrd hQ ok
  go_enter Try.func64, Try.ntmps64
  go_wp2_with (go_at_call 72; refine (goodShape_yes OK.out _).mono ?_; rintro e w1 ⟨rfl, hk1⟩; have hb0 := hk1.blk (blk_new _ _) (by simp); have hlt0 := blk_lt hb0; obtain ⟨q0, q1, q2, q3⟩ := blk4 hb0; have HK1 := hide hk1; have HB0 := hide hb0; clear hb0 hk1)
  have hmk := run_make_row' (P := Try.prog) 40 4 (.bool false) 1 Try.underlying40 Try.info_bool rfl .i64 .i64 S.pages (by omega) (by omega)
  go_region_held3 (fun w' => w'.cell? ⟨w.heap.size, 0, none⟩ = some (.int .i64 S.pages) ∧ w'.cell? ⟨w.heap.size, 1, none⟩ = some (.int .i64 S.inodes) ∧ w'.cell? ⟨w.heap.size, 2, none⟩ = some (.int .i64 S.cores) ∧ w'.cell? ⟨w.heap.size, 3, none⟩ = some (.int .i64 S.data))
    (first | exact ⟨q0, q1, q2, q3⟩ | exact blk4 (blk_alloc HB0.out _) | exact blk4 (blk_alloc (blk_alloc HB0.out _) _))
    (fail)
  clear hmk
  have hb5 : ((w1.alloc (.cells (madeCells #[.bool false] S.pages) 4)).alloc (.cells #[.int .i64 S.pages, .int .i64 S.inodes, .int .i64 S.cores, .int .i64 S.data, .slice (some ⟨w1.heap.size, 0, none⟩) S.pages S.pages] 115)).heap[w1.heap.size + 1]? = some (.cells #[.int .i64 S.pages, .int .i64 S.inodes, .int .i64 S.cores, .int .i64 S.data, .slice (some ⟨w1.heap.size, 0, none⟩) S.pages S.pages] 115 (0, 0)) := blk_new' (by simp) _
  have hr5 : ((w1.alloc (.cells (madeCells #[.bool false] S.pages) 4)).alloc (.cells #[.int .i64 S.pages, .int .i64 S.inodes, .int .i64 S.cores, .int .i64 S.data, .slice (some ⟨w1.heap.size, 0, none⟩) S.pages S.pages] 115)).heap[w1.heap.size]? = some (.cells (madeCells #[.bool false] S.pages) 4 (0, 0)) := blk_alloc (blk_new _ _) _
  have hk5 : Kp [] w1 ((w1.alloc (.cells (madeCells #[.bool false] S.pages) 4)).alloc (.cells #[.int .i64 S.pages, .int .i64 S.inodes, .int .i64 S.cores, .int .i64 S.data, .slice (some ⟨w1.heap.size, 0, none⟩) S.pages S.pages] 115)) := ((Kp.refl _ _).alloc _).alloc _
  generalize (w1.alloc (.cells (madeCells #[.bool false] S.pages) 4)).alloc (.cells #[.int .i64 S.pages, .int .i64 S.inodes, .int .i64 S.cores, .int .i64 S.data, .slice (some ⟨w1.heap.size, 0, none⟩) S.pages S.pages] 115) = w2 at hb5 hr5 hk5 ⊢
  have href : RefAt w2 (w1.heap.size + 1) w1.heap.size S.pages S (fun _ => false) := ⟨hb5, ⟨_, hr5, fun i hi => made_at _ _ _ hi⟩, by omega, OK.out, fun _ _ => rfl, fun _ _ => rfl⟩
  have hsh2 := hk5.blk HB0.out (by simp)
  have hkw2 : Kp [] w w2 := (((Kp.refl [] w).alloc _).trans' HK1.out).trans' hk5
  have hs2 := hk5.size
  have hb5l := blk_lt hb5
  have hs0' : w.heap.size < w1.heap.size := hlt0
  have HREF := hide href
  have HSH2 := hide hsh2
  have HKW2 := hide hkw2
  clear href hsh2 hkw2
  clear hb5 hr5 hk5 q0 q1 q2 q3
  go_wp2
  go_loopw [8, 9] (fun bh i wr => ∃ k : Nat, k ≤ l.length ∧ i = .int .i64 k ∧ bh = .int .i64 (beh l k) ∧ Hid (goodTo S l k) ∧ RefAt wr (w1.heap.size + 1) w1.heap.size S.pages S (onOf l k) ∧ Kp [] w wr ∧
      wr.heap[w.heap.size]? = some (.cells #[.int .i64 S.pages, .int .i64 S.inodes, .int .i64 S.cores, .int .i64 S.data] 23 (0, 0))) (fun _ i _ => l.length - (intOf i).toNat)
  case atStart => exact ⟨0, by omega, rfl, rfl, fun j hj => by omega, by first | exact HREF.out | exact HREF.out.keep ((Kp.refl [] _).drew) (by simp) (by simp), by first | exact HKW2.out | exact HKW2.out.drew, HSH2.out⟩
  case round =>
    obtain ⟨wo, rfl⟩ : ∃ wo : World, wo = wr := ⟨_, rfl⟩
    obtain ⟨k, hk, rfl, rfl, HGT, hre, hkw, hsh⟩ := hrel
    have hsl := blk_lt hsh
    obtain ⟨s0, s1, s2, s3⟩ := blk4 hsh
    by_cases hlt : k < l.length
    · rcases HR.out with hnil | ⟨g, rfl, hrd⟩
      · subst hnil; simp at hlt
      have hc1 := hkw.cell (hrd k hlt).1 (by simp)
      have hc2 := hkw.cell (hrd k hlt).2 (by simp)
      have hbl := onOf_below k HGT.out
      have hnx : beh l k ≤ nx S l k ∧ (beh l k = nx S l k ∨ nx S l k = S.data) := by
        cases k with
        | zero => simp [beh, nx]
        | succ k => simp [beh, nx]
      have hnext : beh l (k + 1) = fr l k + ct l k := rfl
      have hall : ¬ goodAt S l k → ¬ goodTo S l l.length := fun h1 h2 => h1 (h2 k hlt)
      have hgs : goodAt S l k → goodTo S l (k + 1) := fun h => goodTo_succ HGT.out h
      have hon : onOf l (k + 1) = addTo (onOf l k) (fr l k).toNat (ct l k).toNat := rfl
      generalize hf : fr l k = f at hc1 hnext hon
      generalize hcc : ct l k = c at hc2 hnext hon
      have hga : goodAt S l k ↔ (1 ≤ c ∧ nx S l k ≤ f ∧ f < S.pages ∧ c ≤ S.pages - f) := by unfold goodAt; rw [hf, hcc]
      generalize hx : nx S l k = x at hnx hga hbl
      generalize hbx : beh l k = b at hnx ⊢
      have i1 : (0 : Int) ≤ (k : Int) := by omega
      have i2 : (k : Int) < (l.length : Int) := by omega
      obtain ⟨hbl1, hbl2⟩ := hbl
      obtain ⟨hn1, hn2⟩ := hnx
      have HGA := hide hga
      have HALL := hide hall
      have HSH := hide hsh
      have HNX := hide hnext
      have HRE := hide hre
      have HKW := hide hkw
      have HGS := hide hgs
      have HON := hide hon
      have HBL := hide hbl2
      have HN2 := hide hn2
      clear hga hall hsh hnext hre hkw hgs hon hbl2 hn2
      clear hrd hf hcc hx hbx
      by_cases t1 : c < 1
      · go_wp2
        rw [HQ.out]
        exact ⟨HKW.out.alloc _, .inr ⟨HALL.out (by rw [HGA.out]; omega), rfl⟩⟩
      by_cases t2 : 1024 < c
      · go_wp2
        rw [HQ.out]
        exact ⟨HKW.out.alloc _, .inr ⟨HALL.out (by rw [HGA.out]; omega), rfl⟩⟩
      by_cases t3 : f < S.data
      · go_wp2
        rw [HQ.out]
        exact ⟨HKW.out.alloc _, .inr ⟨HALL.out (by rw [HGA.out]; omega), rfl⟩⟩
      by_cases t4 : (S.pages : Int) ≤ f
      · go_wp2
        rw [HQ.out]
        exact ⟨HKW.out.alloc _, .inr ⟨HALL.out (by rw [HGA.out]; omega), rfl⟩⟩
      obtain ⟨f, rfl⟩ := Int.eq_ofNat_of_zero_le (show 0 ≤ f by omega)
      obtain ⟨c, rfl⟩ := Int.eq_ofNat_of_zero_le (show 0 ≤ c by omega)
      by_cases t5 : (S.pages : Int) < (f : Int) + (c : Int)
      · go_wp2
        rw [HQ.out]
        exact ⟨HKW.out.alloc _, .inr ⟨HALL.out (by rw [HGA.out]; omega), rfl⟩⟩
      by_cases t6 : (f : Int) < b
      · go_wp2
        rw [HQ.out]
        exact ⟨HKW.out.alloc _, .inr ⟨HALL.out (by rw [HGA.out]; omega), rfl⟩⟩
      have hgk : goodTo S l (k + 1) := HGS.out (by rw [HGA.out]; have := HN2.out; omega)
      have hoff : ∀ i, f ≤ i → onOf l k i = false := by
        intro i hi
        cases h : onOf l k i with
        | false => rfl
        | true => have h1 := HBL.out i h; have h2 := HN2.out; omega
      have hrl := HRE.out.lt
      have hrm := HRE.out.mlt
      have hsz := HKW.out.size
      have HGK := hide hgk
      have HOFF := hide hoff
      clear hgk hoff
      have hfd : S.data ≤ f := by omega
      have hne1 : w1.heap.size + 1 ≠ wo.heap.size := by omega
      have hne2 : w1.heap.size ≠ wo.heap.size := by omega
      have hne3 : w.heap.size ≠ wo.heap.size := by omega
      go_wp2
      have hkx : Kp [] wo (wo.alloc (.cells #[.int .i64 f, .int .i64 c] 31)) := (Kp.refl _ _).alloc _
      generalize wo.alloc (.cells #[.int .i64 f, .int .i64 c] 31) = wb at hkx ⊢
      have hsb := hkx.size
      have HKX := hide hkx
      clear hkx
      clear t1 t2 t3 t4 t6 s0 s1 s2 s3 hc1 hc2
      go_loopw [11] (fun i wr => ∃ j : Nat, j ≤ c ∧ i = .int .i64 ((f + j : Nat) : Int) ∧ RefAt wr (w1.heap.size + 1) w1.heap.size S.pages S (addTo (onOf l k) f j) ∧ Kp [w1.heap.size] wb wr) (fun i _ => f + c - (intOf i).toNat)
      case atStart => exact ⟨0, by omega, by go_num, by rw [addTo_zero]; exact HRE.out.keep HKX.out (by simp) (by simp), Kp.refl _ _⟩
      case round =>
        obtain ⟨j, hj, rfl, hre2, hk2⟩ := hrel
        obtain ⟨x0, x1, x2, x3, x4⟩ := hre2.cells
        clear x0 x1 x2 x3
        by_cases hjc : j < c
        · have dlt : decide ((f : Int) + (j : Int) < (f : Int) + (c : Int)) = true := by simp; omega
          have dlt' : decide (f + j < f + c) = true := by simp; omega
          have hm := hre2.mark (i := f + j) (by omega)
          have hfz := hre2.mf (f + j)
          have j1 : (0 : Int) ≤ (f : Int) + (j : Int) := by omega
          have j2 : (f : Int) + (j : Int) < (S.pages : Int) := by omega
          have hrt := hre2.turn (i := f + j) true (by omega) (by omega)
          rw [addTo_succ] at hrt
          have HRT := hide hrt
          have HK2 := hide hk2
          clear hrt hk2
          clear hre2
          go_wp2
          go_roundw
          case rel => exact ⟨j + 1, by omega, by go_num, HRT.out, HK2.out.set (by simp) _⟩
          case measure => simp [intOf]; omega
        · have hjc : j = c := by omega
          subst hjc
          have dlt : decide ((f : Int) + (j : Int) < (f : Int) + (j : Int)) = false := by simp
          have dlt' : decide (f + j < f + j) = false := by simp
          have hk3 : Kp [] w wr := (HKW.out.trans' HKX.out).trans hk2 (by simp; have := hs0'; omega)
          have hsh3 := hk2.blk (HKX.out.blk HSH.out (by simp)) (by simp; have := hs0'; omega)
          have HRE2 := hide hre2
          have HK3 := hide hk3
          have HSH3 := hide hsh3
          clear hre2 hk3 hsh3
          clear hk2
          go_wp2
          go_roundw
          case rel => exact ⟨k + 1, by omega, by go_num, by rw [HNX.out], HGK.out, by rw [HON.out]; simpa using HRE2.out, HK3.out, HSH3.out⟩
          case measure => simp [intOf]; omega
    · have hkl : k = l.length := by omega
      subst hkl
      have HRE := hide hre
      have HKW := hide hkw
      clear hre hkw
      go_wp2
      rw [HQ.out]
      have hs0 : w.heap.size ≤ w1.heap.size := by omega
      exact ⟨HKW.out, .inl ⟨HGT.out, _, _, rfl, by omega, by omega, HRE.out⟩⟩

theorem step_app_bools {ops : Array Oper} {o : Oper} {a : Act} {w : World} {K : Act → World → Prop} {Q : Exit → Act → World → Prop} {E : Prop} (hgd : o.guard = none) (s x : Operand)
    (ho : o.op = .call { callee := .builtin .append, args := #[s, x], argTypes := #[40, 40] }) (hs : a.eval s = .slice none 0 0) (xv : Value) (n : Nat) (f : Nat → Bool) (hx : a.eval x = xv) (hsrc : Src w xv n (bls f n)) (hn : 1 ≤ n) (hn2 : n ≤ 4096)
    (h : ∀ mb cap w', w.heap.size ≤ mb → RowB w' mb n f → Kp [] w w' → K (a.put o.dst (.slice (some ⟨mb, 0, none⟩) n cap)) w') :
    if Region.wanted o (yielded ops a.tmps) = true then Oper.wp Try.prog o a w K Q else E := by
  have hw : Region.wanted o (yielded ops a.tmps) = true := by simp [Region.wanted, hgd]
  rw [if_pos hw]
  obtain ⟨i0, hi0, hz0, hz1, hz2⟩ := info_parts Try.info_bool
  obtain ⟨v', w', hr, h2, h3, h4⟩ := run_append_where (P := Try.prog) w w.heap.size 40 o.type 4 i0 (.bool false) 1 1 Try.underlying40 hi0 hz0 hz1 hz2 rfl (by decide) (.slice none 0 0) 0 [] (World.ownsRow_nil _ _ _ _) xv n (bls f n) hsrc (by rw [bls_length, Nat.mul_one])
    (fun u hu => by simp only [bls, List.mem_map] at hu; obtain ⟨i, _, rfl⟩ := hu; rfl) (by unfold maxLen; omega) (by omega) (Nat.le_refl _)
  have hk : Kp [] w w' := (Kp.refl [] w).grown h3 (fun k hk => by cases hk)
  simp only [Nat.zero_add, List.nil_append] at h2
  rcases h2.2 with ⟨rfl, h0⟩ | ⟨g, cap, cur, rfl, hb, hg, hnc, hcm, hcs, htake⟩
  · omega
  · have hrow : RowB w' g n f := ⟨⟨cur, hg, fun i hi => by
      have h8 := congrArg (fun l => l[i]?) htake
      simp only [List.getElem?_take, if_pos (show i < n * 1 by omega), Array.getElem?_toList, bls_get f n i hi] at h8
      exact h8⟩⟩
    unfold Oper.wp execOp
    simp only [ho, resolve, invoke, builtin, Sem.run_bind, Sem.run_pure, Result.andThen_ok, List.map_toArray, List.map_cons, List.map_nil, hs, hx, hr]
    exact h g cap w' hb hrow hk
section
variable {w w' : World} {rb mb cap : Nat} {S : Sh} {on : Nat → Bool}
set_option maxHeartbeats 1000000 in
theorem rCopy_any (h : RefAt w rb mb cap S on) :
    Calls Try.prog 63 #[.pointer (some ⟨rb, 0, none⟩)] w fun e w' => ∃ rb2 mb2 cap2, e = .returned (.pointer (some ⟨rb2, 0, none⟩)) ∧ w.heap.size ≤ rb2 ∧ w.heap.size ≤ mb2 ∧ RefAt w' rb2 mb2 cap2 S on ∧ Kp [] w w' := by
  obtain ⟨c0, c1, c2, c3, c4⟩ := h.cells
  have o1 := h.ok.p2
  have o2 := h.ok.p1
  have hsrc : Src w (.slice (some ⟨mb, 0, none⟩) S.pages cap) S.pages (bls on S.pages) := ⟨_, _, rfl, .inr ⟨mb, 0, rfl, fun j u hj => by
    have hjn : j < S.pages := by have := (List.getElem?_eq_some_iff.1 hj).1; rw [bls_length] at this; exact this
    rw [bls_get on _ j hjn] at hj
    rw [Nat.zero_add, h.mark hjn, hj]⟩⟩
  have hbl := h.lt
  have hbn : rb ≠ w.heap.size := by omega
  have H := hide h
  have HSRC := hide hsrc
  clear h hsrc
  go_enter Try.func63, Try.ntmps63
  go_wp2
  have hz1 := blk_new w (.cells #[.int .i64 S.pages, .int .i64 S.inodes, .int .i64 S.cores, .int .i64 S.data, .slice none 0 0] 115)
  have hk1 : Kp [] w (w.alloc (.cells #[.int .i64 S.pages, .int .i64 S.inodes, .int .i64 S.cores, .int .i64 S.data, .slice none 0 0] 115)) := (Kp.refl _ _).alloc _
  generalize w.alloc (.cells #[.int .i64 S.pages, .int .i64 S.inodes, .int .i64 S.cores, .int .i64 S.data, .slice none 0 0] 115) = w1 at hz1 hk1 ⊢
  have z4 : w1.cell? ⟨w.heap.size, 4, none⟩ = some (.slice none 0 0) := by rw [blk_cell hz1]; rfl
  have d4 := hk1.cell c4 (by simp)
  have hzl := blk_lt hz1
  have hs1 := hk1.size
  have HZ1 := hide hz1
  have HK1 := hide hk1
  clear hz1 hk1
  clear c0 c1 c2 c3 c4
  go_region_law (refine step_app_bools rfl (.tmp 14) (.tmp 18) rfl (by simp [Act.eval]) (.slice (some ⟨mb, 0, none⟩) S.pages cap) S.pages on (by simp [Act.eval]) (HSRC.out.keep (by first | exact HK1.out.drew.drew | exact HK1.out.drew | exact HK1.out) (by simp)) (by omega) (by omega) ?_; intro mb2 cap2 w2 hmb2 hrow hk2; have e4 := hk2.cell (a := ⟨w.heap.size, 4, none⟩) z4 (by simp); have hz2 := hk2.blk (show w1.heap[w.heap.size]? = _ from HZ1.out) (by simp); have ef := blk_free hz2 4)
  all_goals
    go_wp2
    go_ret
    have hmb3 : w1.heap.size ≤ mb2 := hmb2
    have hkw : Kp [] w w2 := HK1.out.trans' (by first | exact ((Kp.refl [] w1).drew.drew).trans' hk2 | exact ((Kp.refl [] w1).drew).trans' hk2 | exact hk2)
    obtain ⟨cc, hcc1, hcc2⟩ := hrow.row
    refine ⟨w.heap.size, mb2, cap2, rfl, Nat.le_refl _, by omega, ⟨?_, ⟨cc, blk_set_ne hcc1 (by simp; omega) _, hcc2⟩, by omega, H.out.ok, H.out.low, H.out.off⟩, hkw.set (.inr (by simp)) _⟩
    rw [blk_set hz2]
    rfl
end
end Go.Proofs.Ytoghdhjeopcjkaa
