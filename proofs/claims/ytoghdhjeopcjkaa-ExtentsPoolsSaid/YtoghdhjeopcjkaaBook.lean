/- The walks of the laws' book: took, some. Conditions: the book lies in memory (BookAt). -/
import Derived.Test.YtoghdhjeopcjkaaBookP
import Derived.Test.YtoghdhjeopcjkaaInts
namespace Go.Proofs.Ytoghdhjeopcjkaa
open Go.RowKit

/-- A book lies in block bb, its marks in block hb. -/
structure BookAt (w : World) (bb hb : Nat) (S : Sh) (n : Nat) (held : Nat → Bool) (many : Nat) : Prop where
  hd : w.heap[bb]? = some (.cells #[.int .i64 S.pages, .int .i64 S.inodes, .int .i64 S.cores, .int .i64 S.data, .slice (some ⟨hb, 0, none⟩) n n, .int .i64 many] 42 (0, 0))
  row : ∃ c : Array Value, w.heap[hb]? = some (.cells c 4 (0, 0)) ∧ ∀ i, i < n → c[i]? = some (.bool (held i))
  ne : bb ≠ hb
section
variable {w w' : World} {bb hb n many : Nat} {S : Sh} {held : Nat → Bool}
theorem BookAt.keep {L : List Nat} (h : BookAt w bb hb S n held many) (k : Kp L w w') (h1 : bb ∉ L) (h2 : hb ∉ L) : BookAt w' bb hb S n held many :=
  ⟨k.blk h.hd h1, by obtain ⟨c, h3, h4⟩ := h.row; exact ⟨c, k.blk h3 h2, h4⟩, h.ne⟩
theorem BookAt.drewN (h : BookAt w bb hb S n held many) (k : Nat) : BookAt (w.drewN k) bb hb S n held many := h.keep (L := []) ((Kp.refl _ _).drewN k) (by simp) (by simp)
theorem BookAt.lt (h : BookAt w bb hb S n held many) : bb < w.heap.size := blk_lt h.hd
theorem BookAt.hlt (h : BookAt w bb hb S n held many) : hb < w.heap.size := by obtain ⟨c, h3, _⟩ := h.row; exact blk_lt h3
theorem BookAt.cells (h : BookAt w bb hb S n held many) : w.cell? ⟨bb, 0, none⟩ = some (.int .i64 S.pages) ∧ w.cell? ⟨bb, 2, none⟩ = some (.int .i64 S.cores) ∧ w.cell? ⟨bb, 3, none⟩ = some (.int .i64 S.data) ∧
    w.cell? ⟨bb, 4, none⟩ = some (.slice (some ⟨hb, 0, none⟩) n n) ∧ w.cell? ⟨bb, 5, none⟩ = some (.int .i64 many) := by simp [World.cell?, h.hd]
theorem BookAt.mark (h : BookAt w bb hb S n held many) {i : Nat} (hi : i < n) : w.cell? ⟨hb, i, none⟩ = some (.bool (held i)) := by
  obtain ⟨c, h3, h4⟩ := h.row
  rw [blk_cell h3]; exact h4 i hi
theorem BookAt.f (h : BookAt w bb hb S n held many) (i : Nat) : w.frozen? ⟨bb, i, none⟩ = false := blk_free h.hd i
theorem BookAt.hf (h : BookAt w bb hb S n held many) (i : Nat) : w.frozen? ⟨hb, i, none⟩ = false := by obtain ⟨c, h3, _⟩ := h.row; exact blk_free h3 i
/-- What a store of one mark and one of the count leave. -/
theorem BookAt.turn (h : BookAt w bb hb S n held many) {i : Nat} (v : Bool) {m : Int} {m2 : Nat} (hm : m = m2) :
    BookAt ((w.setCell ⟨hb, i, none⟩ (.bool v)).setCell ⟨bb, 5, none⟩ (.int .i64 m)) bb hb S n (put held i v) m2 := by
  subst hm
  obtain ⟨c, h3, h4⟩ := h.row
  refine ⟨?_, ⟨c.setIfInBounds i (.bool v), blk_set_ne (blk_set h3 _) (Ne.symm h.ne) _, fun j hj => ?_⟩, h.ne⟩
  · rw [blk_set (blk_set_ne h.hd h.ne _)]; simp
  · by_cases e : j = i
    · subst e
      have hlt := (Array.getElem?_eq_some_iff.1 (h4 j hj)).1
      simp [hlt, put]
    · rw [Array.getElem?_setIfInBounds, if_neg (by omega), put_other _ e]; exact h4 j hj

set_option maxHeartbeats 4000000 in
set_option maxRecDepth 100000 in
theorem took_ok (h : BookAt w bb hb S S.pages held many) (v : Value) (l : Sps) (hv : RdS w v l) (hvb : ∀ x, v.ownBlock = some x → x ≠ bb ∧ x ≠ hb) (hp : S.pages ≤ 1024) (hmany : many ≤ 1024) (hlen : l.length ≤ 1024)
    (h1 : ∀ j, j < l.length → 1 ≤ ct l j ∧ (S.data : Int) ≤ fr l j ∧ fr l j + ct l j ≤ S.pages) (h2 : ∀ i, i + 1 < l.length → fr l i + ct l i ≠ fr l (i + 1))
    (h3 : ∀ j, j < l.length → ∀ i, i ∈ List.range' (fr l j).toNat (ct l j).toNat → plus held (pagesL (l.take j)) i = false) (h4 : (pagesL l).length ≤ 1024) :
    Calls Try.prog 34 #[.pointer (some ⟨bb, 0, none⟩), v] w fun e w' => e = .returned (.bool true) ∧ BookAt w' bb hb S S.pages (plus held (pagesL l)) (many + (pagesL l).length) ∧ Kp [bb, hb] w w' := by
  obtain ⟨a, lc, rfl, hrd⟩ := hv
  have hlp : ∀ j, (pagesL (l.take j)).length ≤ 1024 := by
    intro j
    have e : pagesL l = pagesL (l.take j) ++ pagesL (l.drop j) := by rw [← pagesL_append, List.take_append_drop]
    rw [e, List.length_append] at h4; omega
  have H := hide h
  have HR := hide hrd
  have H1 := hide h1
  have H2 := hide h2
  have H3 := hide h3
  have HLP := hide hlp
  clear h hrd h1 h2 h3 hlp
  go_enter Try.func34, Try.ntmps34
  go_wp2
  go_loopw [5] (fun i wr => ∃ k : Nat, k ≤ l.length ∧ i = .int .i64 k ∧ BookAt wr bb hb S S.pages (plus held (pagesL (l.take k))) (many + (pagesL (l.take k)).length) ∧ Kp [bb, hb] w wr) (fun i _ => l.length - (intOf i).toNat)
  case atStart => exact ⟨0, by omega, rfl, by have := H.out; rw [show pagesL (l.take 0) = [] from by simp [pagesL], plus_nil]; exact this, Kp.refl _ _⟩
  case round =>
    obtain ⟨wo, rfl⟩ : ∃ wo : World, wo = wr := ⟨_, rfl⟩
    obtain ⟨k, hk, rfl, hbk, hkp⟩ := hrel
    by_cases hlt : k < l.length
    · rcases HR.out with hnil | ⟨g, rfl, hrd⟩
      · subst hnil; simp at hlt
      have hgb := hvb g rfl
      have l0 := hkp.cell (hrd k hlt).1 (by simp; omega)
      have l1 := hkp.cell (hrd k hlt).2 (by simp; omega)
      have g1 := H1.out k hlt
      have g3 := H3.out k hlt
      have gp := pagesL_take_succ l k hlt
      have glp := HLP.out k
      generalize hP : pagesL (l.take k) = P at hbk g3 gp glp
      have gprev : Hid (k = 0) ∨ (0 < k ∧ wo.cell? ⟨g, (k - 1) * 2, none⟩ = some (.int .i64 (fr l (k - 1))) ∧ wo.cell? ⟨g, (k - 1) * 2 + 1, none⟩ = some (.int .i64 (ct l (k - 1))) ∧ fr l (k - 1) + ct l (k - 1) ≠ fr l k ∧ 0 ≤ fr l (k - 1) ∧ 1 ≤ ct l (k - 1) ∧ fr l (k - 1) + ct l (k - 1) ≤ 1024) := by
        rcases Nat.eq_zero_or_pos k with h0 | h0
        · exact .inl h0
        · obtain ⟨k', rfl⟩ : ∃ k', k = k' + 1 := ⟨k - 1, by omega⟩
          have q1 := H1.out k' (by omega)
          exact .inr ⟨h0, hkp.cell (hrd k' (by omega)).1 (by simp; omega), hkp.cell (hrd k' (by omega)).2 (by simp; omega), H2.out k' hlt, by simp only [Nat.add_sub_cancel]; omega, by simp only [Nat.add_sub_cancel]; omega, by simp only [Nat.add_sub_cancel]; omega⟩
      generalize hf : fr l k = f at l0 g1 g3 gp gprev
      generalize hc : ct l k = c at l1 g1 g3 gp
      obtain ⟨f, rfl⟩ := Int.eq_ofNat_of_zero_le (show 0 ≤ f by omega)
      obtain ⟨c, rfl⟩ := Int.eq_ofNat_of_zero_le (show 0 ≤ c by omega)
      simp only [Int.toNat_natCast] at g3 gp
      obtain ⟨b0, b2, b3, b4, b5⟩ := hbk.cells
      have hc1 : 1 ≤ c := by omega
      have hfd : S.data ≤ f := by omega
      have hfc : f + c ≤ S.pages := by omega
      have d1 : decide ((c : Int) < 1) = false := by simp; omega
      have d1' : decide (c < 1) = false := by simp; omega
      have d2 : decide (S.pages < c) = false := by simp; omega
      have d3 : decide (f < S.data) = false := by simp; omega
      have d4 : decide ((S.pages : Int) - (c : Int) < (f : Int)) = false := by simp; omega
      have hl0 := (hrd k hlt).1
      have hl1 := (hrd k hlt).2
      rw [hf] at hl0
      rw [hc] at hl1
      have hww := hkp.size
      have HBK := hide hbk
      have HKP := hide hkp
      have G3 := hide g3
      have GP := hide gp
      have HP := hide hP
      have HL0 := hide hl0
      have HL1 := hide hl1
      clear hbk hkp g3 gp hP hl0 hl1
      clear hrd g1 hf hc
      rcases gprev with h0 | ⟨h0, p0, p1, p2, p3, p4, p5⟩
      · have d5 : decide (0 < k) = false := by have := h0.out; simp; omega
        have d6 : decide ((0 : Int) < (k : Int)) = false := by have := h0.out; simp; omega
        go_wp2
        go_quiet (fail)
        go_wp2
        go_quiet (fail)
        go_wp2
        go_loopw [6] (fun pg wr => ∃ t : Nat, t ≤ c ∧ pg = .int .i64 ((f + t : Nat) : Int) ∧ BookAt wr bb hb S S.pages (addTo (plus held P) f t) (many + P.length + t) ∧ Kp [bb, hb] w wr) (fun pg _ => f + c - (intOf pg).toNat)
        case atStart => exact ⟨0, by omega, by go_num, by rw [addTo_zero]; exact HBK.out.drewN _, HKP.out.drewN _⟩
        case round =>
          obtain ⟨wi, rfl⟩ : ∃ wi : World, wi = wr := ⟨_, rfl⟩
          obtain ⟨t, ht, rfl, hb2, hk2⟩ := hrel
          have m0 := hk2.cell HL0.out (by simp; omega)
          have m1 := hk2.cell HL1.out (by simp; omega)
          have ew3 : IntKind.i64.wrap ((f : Int) + (c : Int)) = (f : Int) + (c : Int) := by rw [IntKind.wrap_i64]; omega
          have hbf := hb2.f 5
          have hhf := hb2.hf (f + t)
          have hne := hb2.ne
          obtain ⟨e0, e2, e3, e4, e5⟩ := hb2.cells
          by_cases htc : t < c
          · have dlt : decide (f + t < f + c) = true := by simp; omega
            have dlt2 : decide ((f : Int) + (t : Int) < (f : Int) + (c : Int)) = true := by simp; omega
            have hoff : addTo (plus held P) f t (f + t) = false := by simp [addTo, G3.out (f + t) (by rw [List.mem_range'_1]; omega)]
            have hmk := hb2.mark (i := f + t) (by omega)
            rw [hoff] at hmk
            have HB2 := hide hb2
            have HK2 := hide hk2
            clear hb2 hk2
            clear hoff
            go_wp2
            go_quiet (fail)
            go_wp2
            go_roundw
            case rel =>
              have hb3 := HB2.out.drewN 1
              exact ⟨t + 1, by omega, by go_num, by rw [← addTo_succ]; exact (HB2.out.drewN _).turn true (by omega), ((HK2.out.drewN _).set (by simp) _).set (by simp) _⟩
            case measure => simp [intOf]; omega
          · have htc : t = c := by omega
            subst htc
            have dlt : decide (f + t < f + t) = false := by simp
            have dlt2 : decide ((f : Int) + (t : Int) < (f : Int) + (t : Int)) = false := by simp
            go_wp2
            go_quiet (fail)
            go_wp2
            go_roundw
            case rel =>
              refine ⟨k + 1, by omega, by go_num, ?_, hk2.drewN _⟩
              rw [GP.out, plus_range, List.length_append, List.length_range', ← Nat.add_assoc]
              exact hb2.drewN _
            case measure => simp [intOf]; omega
      · generalize fr l (k - 1) = pf at p0 p2 p3 p5
        generalize ct l (k - 1) = pc at p1 p2 p4 p5
        have d5 : decide (0 < k) = true := by simp; omega
        have d6 : decide ((0 : Int) < (k : Int)) = true := by simp; omega
        have d7 : (pf + pc == (f : Int)) = false := by simpa using p2
        have ew : IntKind.i64.wrap (pf + pc) = pf + pc := by rw [IntKind.wrap_i64]; omega
        clear p2
        go_wp2
        go_quiet (fail)
        go_wp2
        go_quiet (fail)
        go_wp2
        go_loopw [6] (fun pg wr => ∃ t : Nat, t ≤ c ∧ pg = .int .i64 ((f + t : Nat) : Int) ∧ BookAt wr bb hb S S.pages (addTo (plus held P) f t) (many + P.length + t) ∧ Kp [bb, hb] w wr) (fun pg _ => f + c - (intOf pg).toNat)
        case atStart => exact ⟨0, by omega, by go_num, by rw [addTo_zero]; exact HBK.out.drewN _, HKP.out.drewN _⟩
        case round =>
          obtain ⟨wi, rfl⟩ : ∃ wi : World, wi = wr := ⟨_, rfl⟩
          obtain ⟨t, ht, rfl, hb2, hk2⟩ := hrel
          have m0 := hk2.cell HL0.out (by simp; omega)
          have m1 := hk2.cell HL1.out (by simp; omega)
          have ew3 : IntKind.i64.wrap ((f : Int) + (c : Int)) = (f : Int) + (c : Int) := by rw [IntKind.wrap_i64]; omega
          have hbf := hb2.f 5
          have hhf := hb2.hf (f + t)
          have hne := hb2.ne
          obtain ⟨e0, e2, e3, e4, e5⟩ := hb2.cells
          by_cases htc : t < c
          · have dlt : decide (f + t < f + c) = true := by simp; omega
            have dlt2 : decide ((f : Int) + (t : Int) < (f : Int) + (c : Int)) = true := by simp; omega
            have hoff : addTo (plus held P) f t (f + t) = false := by simp [addTo, G3.out (f + t) (by rw [List.mem_range'_1]; omega)]
            have hmk := hb2.mark (i := f + t) (by omega)
            rw [hoff] at hmk
            have HB2 := hide hb2
            have HK2 := hide hk2
            clear hb2 hk2
            clear hoff
            go_wp2
            go_quiet (fail)
            go_wp2
            go_roundw
            case rel =>
              have hb3 := HB2.out.drewN 1
              exact ⟨t + 1, by omega, by go_num, by rw [← addTo_succ]; exact (HB2.out.drewN _).turn true (by omega), ((HK2.out.drewN _).set (by simp) _).set (by simp) _⟩
            case measure => simp [intOf]; omega
          · have htc : t = c := by omega
            subst htc
            have dlt : decide (f + t < f + t) = false := by simp
            have dlt2 : decide ((f : Int) + (t : Int) < (f : Int) + (t : Int)) = false := by simp
            go_wp2
            go_quiet (fail)
            go_wp2
            go_roundw
            case rel =>
              refine ⟨k + 1, by omega, by go_num, ?_, hk2.drewN _⟩
              rw [GP.out, plus_range, List.length_append, List.length_range', ← Nat.add_assoc]
              exact hb2.drewN _
            case measure => simp [intOf]; omega
    · have hkl : k = l.length := by omega
      subst hkl
      rw [List.take_length] at hbk
      go_wp2
      go_ret
      exact ⟨rfl, hbk, hkp⟩
end
end Go.Proofs.Ytoghdhjeopcjkaa
