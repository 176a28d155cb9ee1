/- The walks of slices.Clone of words, of marks.clone and of Pool.Copy. Conditions: the pool lies in memory (PoolAt). -/
import Derived.Test.YtoghdhjeopcjkaaAgrees
import Derived.Test.YtoghdhjeopcjkaaKq
namespace Go.Proofs.Ytoghdhjeopcjkaa
open Go.RowKit Go.Deep

theorem set3 (w : World) (b : Nat) (x y z : Value) : Kp [b] w (((w.setCell ⟨b, 0, none⟩ x).setCell ⟨b, 1, none⟩ y).setCell ⟨b, 2, none⟩ z) := (((Kp.refl _ _).set (by simp) _).set (by simp) _).set (by simp) _
theorem alk (w : World) (o : Obj) : Kp [] w (w.alloc o) := (Kp.refl _ _).alloc _
theorem blk3' {w : World} {b : Nat} {x0 x1 x2 : Value} {T : TypeId} {fr : Nat × Nat} (h : w.heap[b]? = some (.cells #[x0, x1, x2] T fr)) :
    w.cell? ⟨b, 0, none⟩ = some x0 ∧ w.cell? ⟨b, 1, none⟩ = some x1 ∧ w.cell? ⟨b, 2, none⟩ = some x2 := by
  simp [World.cell?, h]
theorem copied_words {w' : World} {base : Nat} {v : Value} {k : Nat} {c : Array Value} (hk : 1 ≤ k) (h : w'.ownsRow base 107 1 v (0 + k) ([] ++ (c.toList.take k))) :
    ∃ wb2 cap2 c2, v = .slice (some ⟨wb2, 0, none⟩) k cap2 ∧ base ≤ wb2 ∧ w'.heap[wb2]? = some (.cells c2 107 (0, 0)) ∧ ∀ j, j < k → c2[j]? = c[j]? := by
  obtain ⟨_, ⟨_, h2⟩ | ⟨g, cap, cur, h1, h2, h3, h4, h5, h6, h7⟩⟩ := h
  · omega
  · simp only [Nat.zero_add, List.nil_append, Nat.mul_one] at h1 h7
    refine ⟨g, cap, cur, h1, h2, h3, fun j hj => ?_⟩
    have h8 := congrArg (fun l => l[j]?) h7
    simp only [List.getElem?_take, if_pos hj, Array.getElem?_toList] at h8
    exact h8

set_option maxHeartbeats 1000000 in
set_option maxRecDepth 100000 in
theorem sliceClone_any {w : World} {wb k cap : Nat} {c : Array Value} (hb : w.heap[wb]? = some (.cells c 107 (0, 0))) (hc : ∀ j, j < k → ∃ x : Nat, c[j]? = some (.int .u64 x)) (hk : 1 ≤ k) (hk2 : k ≤ 64) :
    Calls Try.prog 62 #[.slice (some ⟨wb, 0, none⟩) k cap] w fun e w' => ∃ wb2 cap2 c2, e = .returned (.slice (some ⟨wb2, 0, none⟩) k cap2) ∧ w.heap.size ≤ wb2 ∧ w'.heap[wb2]? = some (.cells c2 107 (0, 0)) ∧ (∀ j, j < k → c2[j]? = c[j]?) ∧ Kp [] w w' := by
  obtain ⟨i0, hi0, hz0, hz1, hz2⟩ := info_parts Try.info_u64
  have heq := fun W => Lib.run_eql_slice_nil (P := Try.prog) W 92 107 (some ⟨wb, 0, none⟩) k cap 0 0 Try.underlying92
  have hlen : (c.toList.take k).length = k := by
    have : k ≤ c.toList.length := by
      obtain ⟨x, hx⟩ := hc (k - 1) (by omega)
      have := (Array.getElem?_eq_some_iff.1 hx).1
      simp; omega
    rw [List.length_take]; omega
  have hone : ∀ u ∈ c.toList.take k, u.oneCell' = true := by
    intro u hu
    obtain ⟨j, hj, e⟩ := List.getElem_of_mem hu
    rw [hlen] at hj
    obtain ⟨x, hx⟩ := hc j hj
    have h2 : (c.toList.take k)[j]? = some u := by rw [← e]; exact List.getElem?_eq_getElem _
    rw [List.getElem?_take, if_pos hj, Array.getElem?_toList, hx] at h2
    injection h2 with h2
    rw [← h2]; rfl
  have hsrc : Src w (.slice (some ⟨wb, 0, none⟩) k cap) k (c.toList.take k) := ⟨_, _, rfl, .inr ⟨wb, 0, rfl, fun j u hj => by
    rw [Nat.zero_add, blk_cell hb]
    have hjk : j < k := by have := (List.getElem?_eq_some_iff.1 hj).1; omega
    rw [List.getElem?_take, if_pos hjk, Array.getElem?_toList] at hj
    exact hj⟩⟩
  have hbl := blk_lt hb
  have HSRC := hide hsrc
  have HLEN := hide hlen
  have HONE := hide hone
  have HC := hide hc
  clear hsrc hlen hone hc
  clear hb
  go_enter Try.func62, Try.ntmps62
  go_wp2_with (at_builtin; refine wpl_append _ rfl _ _ 92 rfl w.heap.size 107 i0 (.int .u64 0) 1 8 Try.underlying92 hi0 hz0 hz1 hz2 rfl (by decide) (.slice (some ⟨w.heap.size, 0, none⟩) 0 0) 0 [] rfl (World.ownsRow_lit w #[] 0 (Nat.le_refl _) (by unfold maxLen; omega) rfl) (.slice (some ⟨wb, 0, none⟩) k cap) k (c.toList.take k) rfl (HSRC.out.keep ((Kp.refl [] _).alloc _) (by simp)) (by rw [HLEN.out, Nat.mul_one]) HONE.out (by unfold maxLen; omega) (by omega) (by simp) ?_; intro v' w1 hown1 hgr _; obtain ⟨wb2, cap2, c2, rfl, hb1, hb2, hb3⟩ := copied_words hk hown1; have hk1 : Kp [] w w1 := ((Kp.refl [] w).alloc _).grown hgr (fun x hx => .inr (by simp [Value.ownBlock] at hx; omega)); have HB2 := hide hb2; have HB3 := hide hb3; have HK1 := hide hk1; clear hown1 hgr hb2 hb3 hk1)
  go_ret
  exact ⟨wb2, cap2, c2, rfl, hb1, HB2.out, HB3.out, HK1.out⟩

section
variable {w : World} {b wb cap T : Nat} {tail : List Value} {n : Nat} {on : Nat → Bool}
/-- What marks.clone answers: words of its own that hold the same. -/
def ClonePost (w : World) (n : Nat) (on : Nat → Bool) (e : Ending) (w' : World) : Prop :=
  ∃ wb2 cap2 c2, e = .returned (.agg #[.int .i64 n, .int .i64 (cnt on n), .slice (some ⟨wb2, 0, none⟩) ((n + 63) / 64) cap2]) ∧ w.heap.size ≤ wb2 ∧ w'.heap[wb2]? = some (.cells c2 107 (0, 0)) ∧
    (∀ k, k < (n + 63) / 64 → ∃ x : Nat, c2[k]? = some (.int .u64 x) ∧ WordOk x k on) ∧ Kp [] w w'
set_option maxHeartbeats 1000000 in
set_option maxRecDepth 100000 in
theorem mclone_any (h : MarksAt w b wb cap T tail n on) (hn : 1 ≤ n) : Calls Try.prog 56 #[.pointer (some ⟨b, 0, none⟩)] w (ClonePost w n on) := by
  obtain ⟨Q, hQ⟩ : ∃ Q, Q = ClonePost w n on := ⟨_, rfl⟩
  rw [← hQ]
  obtain ⟨c, hw1, hw2⟩ := h.ws
  have c0 := h.c0
  have c1 := h.c1
  have c2 := h.c2
  have hbl := h.lt
  have hnl := h.nle
  have hwl := blk_lt hw1
  obtain ⟨k, hk⟩ : ∃ k, (n + 63) / 64 = k := ⟨_, rfl⟩
  obtain ⟨m, hm⟩ : ∃ m, cnt on n = m := ⟨_, rfl⟩
  rw [hm] at c1
  rw [hk] at c2 hw2
  have hk1 : 1 ≤ k := by omega
  have hk2 : k ≤ 64 := by omega
  have HQ := hide hQ
  have HW1 := hide hw1
  have HW2 := hide hw2
  have HK := hide hk
  have HM := hide hm
  clear hQ hw1 hw2 hk hm
  clear h
  go_enter Try.func56, Try.ntmps56
  go_wp2
  generalize hwa : w.alloc _ = wa
  have hka : Kp [] w wa := by rw [← hwa]; exact (Kp.refl _ _).alloc _
  have hza := blk_new w (.cells #[.int .i64 0, .int .i64 0, .slice none 0 0] 94)
  rw [hwa] at hza
  have hsa := hka.size
  have hza1 := blk_lt hza
  have d0 := hka.cell c0 (by simp)
  have d1 := hka.cell c1 (by simp)
  have d2 := hka.cell c2 (by simp)
  have HKA := hide hka
  have HZA := hide hza
  clear hka hza
  clear hwa c0 c1 c2
  go_region_held3 (fun w' => w'.cell? ⟨b, 0, none⟩ = some (.int .i64 n) ∧ w'.cell? ⟨b, 1, none⟩ = some (.int .i64 m) ∧ w'.cell? ⟨b, 2, none⟩ = some (.slice (some ⟨wb, 0, none⟩) k cap))
    (first | exact ⟨x0, x1, x2⟩ | exact ⟨d0, d1, d2⟩ | exact ⟨(set3 _ _ _ _ _).cell x0 (by simp; omega), (set3 _ _ _ _ _).cell x1 (by simp; omega), (set3 _ _ _ _ _).cell x2 (by simp; omega)⟩)
    ((go_at_call 62; refine (sliceClone_any (HKA.out.drew.blk HW1.out (by simp)) (fun j hj => (HW2.out j hj).imp fun _ h => h.1) hk1 hk2).mono ?_; rintro e w1 ⟨wb2, cap2, cc2, rfl, hb2, hw2, hcc, hk1'⟩; have x0 := hk1'.cell (a := ⟨b, 0, none⟩) d0 (by simp); have x1 := hk1'.cell (a := ⟨b, 1, none⟩) d1 (by simp); have x2 := hk1'.cell (a := ⟨b, 2, none⟩) d2 (by simp); have hz1 := hk1'.blk (show wa.drew.heap[w.heap.size]? = _ from HZA.out) (by simp); have hzz := blk3' hz1; obtain ⟨z0, z1, z2⟩ := hzz; have zf0 := blk_free hz1 0; have zf1 := blk_free hz1 1; have zf2 := blk_free hz1 2))
  go_wp2
  rw [HQ.out]
  refine bodyPost_ret (v := .agg #[.int .i64 n, .int .i64 m, .slice (some ⟨wb2, 0, none⟩) k cap2]) (by simp [results, Try.results56, go_sem, z0, z1, z2]) rfl ?_
  have hk01 : Kp [] w w1 := HKA.out.trans' (((Kp.refl [] wa).drew).trans' hk1')
  refine ⟨wb2, cap2, cc2, by rw [HK.out, HM.out], by have h : wa.heap.size ≤ wb2 := hb2; omega, (set3 _ _ _ _ _).blk hw2 (by simp; have h : wa.heap.size ≤ wb2 := hb2; omega), fun j hj => ?_, hk01.trans (set3 _ _ _ _ _) (by simp)⟩
  rw [HK.out] at hj
  obtain ⟨x, e1, e2⟩ := HW2.out j hj
  exact ⟨x, by rw [hcc j hj]; exact e1, e2⟩
end

section
variable {w : World} {b wb cap : Nat} {on : Nat → Bool} {S : Sh}
set_option maxHeartbeats 1000000 in
set_option maxRecDepth 100000 in
theorem pCopy_any (h : PoolAt w b wb cap S on) :
    Calls Try.prog 39 #[.pointer (some ⟨b, 0, none⟩)] w fun e w' => ∃ b2 wb2 cap2, e = .returned (.pointer (some ⟨b2, 0, none⟩)) ∧ w.heap.size ≤ b2 ∧ w.heap.size ≤ wb2 ∧ PoolAt w' b2 wb2 cap2 S on ∧ Kp [] w w' := by
  have ok := h.ok
  have c3 := h.c3
  have c4 : w.cell? ⟨b, 4, none⟩ = some (.int .i64 S.inodes) := by rw [show (4 : Nat) = 1 + 3 by rfl, h.m.c3]; rfl
  have c5 := h.c5
  have c6 := h.c6
  have hp1 := ok.p1
  have hlow := h.low
  have hoff := h.m.off
  have hnle := h.m.nle
  have H := hide h
  have OK := hide ok
  have HLOW := hide hlow
  have HOFF := hide hoff
  clear h ok hlow hoff
  go_enter Try.func39, Try.ntmps39
  go_wp2
  go_region_held3 (fun w' => w'.cell? ⟨b, 3, none⟩ = some (.int .i64 S.pages) ∧ w'.cell? ⟨b, 4, none⟩ = some (.int .i64 S.inodes) ∧ w'.cell? ⟨b, 5, none⟩ = some (.int .i64 S.cores) ∧ w'.cell? ⟨b, 6, none⟩ = some (.int .i64 S.data))
    (first | exact ⟨x0, x1, x2, x3⟩ | exact ⟨c3, c4, c5, c6⟩ | exact ⟨(alk _ _).cell x0 (by simp), (alk _ _).cell x1 (by simp), (alk _ _).cell x2 (by simp), (alk _ _).cell x3 (by simp)⟩)
    ((go_at_call 56; refine (mclone_any (H.out.m.keep ((Kp.refl [] _).drew) (by simp) (by simp)) (by omega)).mono ?_; rintro e w1 ⟨wb2, cap2, cc2, rfl, hb2, hw2, hcc, hk1⟩; have x0 := hk1.cell (a := ⟨b, 3, none⟩) c3 (by simp); have x1 := hk1.cell (a := ⟨b, 4, none⟩) c4 (by simp); have x2 := hk1.cell (a := ⟨b, 5, none⟩) c5 (by simp); have x3 := hk1.cell (a := ⟨b, 6, none⟩) c6 (by simp)))
  have hbl2 := blk_lt hw2
  have hs1 := hk1.size
  go_wp2
  go_ret
  refine ⟨w1.heap.size, wb2, cap2, rfl, hs1, hb2, ⟨⟨?_, ⟨cc2, blk_alloc hw2 _, hcc⟩, by omega, hnle, HOFF.out⟩, OK.out, HLOW.out⟩, ((Kp.refl [] w).drew.trans' hk1).trans' (alk _ _)⟩
  exact blk_new _ _
end
end Go.Proofs.Ytoghdhjeopcjkaa
