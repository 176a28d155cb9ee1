/- The walks of the reference's Spans and Core. Conditions: the pool lies in memory (RefAt). -/
import Derived.Test.YtoghdhjeopcjkaaRef2
namespace Go.Proofs.Ytoghdhjeopcjkaa
open Go.RowKit Go.Deep

theorem runsTo_skips (p : Nat → Bool) (d k : Nat) (h : ∀ i, i < d → p i = false) : runsTo p 0 (d + k) = runsTo p d k := by
  rw [runsTo_spansOf, runsTo_spansOf, pgs_append, Nat.zero_add]
  have e : pgs p 0 d = [] := by
    rw [List.eq_nil_iff_forall_not_mem]
    intro i hi
    have := mem_pgs.1 hi
    rw [h i (by omega)] at this
    exact absurd this.2.2 (by simp)
  rw [e]; rfl
/-- Only the marks from F on below F + C. -/
def cutTo (on : Nat → Bool) (F C : Nat) : Nat → Bool := fun i => on i && decide (F ≤ i) && decide (i < F + C)
theorem runs_cut (on : Nat → Bool) (F C n : Nat) (h : F + C ≤ n) : runsTo (cutTo on F C) 0 n = runsTo on F C := by
  obtain ⟨r, rfl⟩ : ∃ r, n = F + C + r := ⟨n - (F + C), by omega⟩
  rw [runsTo_spansOf, runsTo_spansOf, pgs_append, pgs_append, Nat.zero_add]
  have e1 : pgs (cutTo on F C) 0 F = [] := by
    rw [List.eq_nil_iff_forall_not_mem]
    intro i hi
    have := mem_pgs.1 hi
    simp [cutTo] at this
    omega
  have e2 : pgs (cutTo on F C) (0 + (F + C)) r = [] := by
    rw [List.eq_nil_iff_forall_not_mem]
    intro i hi
    have := mem_pgs.1 hi
    simp [cutTo] at this
    omega
  have e3 : pgs (cutTo on F C) F C = pgs on F C := pgs_congr fun i h1 h2 => by
    simp only [cutTo]
    have a1 : decide (F ≤ i) = true := by simpa using h1
    have a2 : decide (i < F + C) = true := by simpa using h2
    rw [a1, a2]; simp
  rw [e1, e2, e3]; simp

def bls (f : Nat → Bool) (n : Nat) : List Value := (List.range n).map fun (i : Nat) => Value.bool (f i)
theorem bls_length (f : Nat → Bool) (n : Nat) : (bls f n).length = n := by simp [bls]
theorem bls_succ (f : Nat → Bool) (n : Nat) : bls f (n + 1) = bls f n ++ [Value.bool (f n)] := by simp [bls, List.range_succ]
theorem bls_get (f : Nat → Bool) (n i : Nat) (h : i < n) : (bls f n)[i]? = some (.bool (f i)) := by simp [bls, h]
/-- An own list of n marks. -/
def OwnB (w : World) (base : Nat) (v : Value) (n : Nat) (f : Nat → Bool) : Prop := w.ownsRow base 4 1 v n (bls f n)
theorem OwnB.nil (w : World) (base : Nat) (f : Nat → Bool) : OwnB w base (.slice none 0 0) 0 f := World.ownsRow_nil _ _ _ _
theorem OwnB.keep {S : List Nat} {w w' : World} {base n : Nat} {v : Value} {f : Nat → Bool} (h : OwnB w base v n f) (k : Kp S w w') (hS : ∀ b, v.ownBlock = some b → b ∉ S) : OwnB w' base v n f := ownsRow_keep h k hS
theorem OwnB.lt {w : World} {base n : Nat} {v : Value} {f : Nat → Bool} (h : OwnB w base v n f) : ∀ b, v.ownBlock = some b → base ≤ b ∧ b < w.heap.size := World.ownsRow.lt h
theorem OwnB.rd {w : World} {base n : Nat} {v : Value} {f : Nat → Bool} (h : OwnB w base v n f) : RdB w v n f := by
  have h' := h
  rcases h.2 with ⟨rfl, h2⟩ | ⟨g, cap, cur, rfl, h2, h3, h4, h5, _⟩
  · subst h2; exact ⟨_, _, rfl, .inl rfl⟩
  · exact ⟨_, _, rfl, .inr ⟨g, rfl, fun i hi => by rw [World.ownsRow.cellAt h' _ (by omega)]; exact bls_get f n i hi⟩⟩
/-- append of one mark. -/
theorem app_bool {ops : Array Oper} {rest : List Oper} {o : Oper} {a : Act} {Q : Exit → Act → World → Prop} {w : World} (hgd : o.guard = none) (s x : Operand)
    (ho : o.op = .call { callee := .builtin .append, args := #[s, x], argTypes := #[40, 40] }) (base : Nat) (v : Value) (n : Nat) (f : Nat → Bool) (hs : a.eval s = v) (hown : OwnB w base v n f)
    (g : Nat) (q : Bool) (hq : q = f n) (fz : Nat × Nat) (hx : a.eval x = .slice (some ⟨g, 0, none⟩) 1 1) (hc : w.heap[g]? = some (.cells #[.bool q] 4 fz)) (hlen : n ≤ 1099511627776) (hbase : base ≤ w.heap.size)
    (h : ∀ v' w', OwnB w' base v' (n + 1) f → w.grownBy w' v.ownBlock → wpList Try.prog ops Q rest (a.put o.dst v') w') : wpList Try.prog ops Q (o :: rest) a w := by
  obtain ⟨i0, hi0, hz0, hz1, hz2⟩ := info_parts Try.info_bool
  refine wpl_append w hgd s x 40 ho base 4 i0 (.bool false) 1 1 Try.underlying40 hi0 hz0 hz1 hz2 rfl (by decide) v n (bls f n) hs hown
    _ 1 [.bool q] hx ⟨_, _, rfl, .inr ⟨g, 0, rfl, fun j u hj => ?_⟩⟩ rfl ?_ (by unfold maxLen; omega) (by omega) hbase ?_
  · match j, hj with
    | 0, hj => simp at hj; subst hj; simp [blk_cell hc]
  · intro u hu; simp at hu; subst hu; rfl
  · intro v' w' h1 h2 h3
    refine h v' w' ?_ h2
    unfold OwnB
    rw [bls_succ, ← hq]
    exact h1

section
variable {w w' : World} {rb mb cap : Nat} {S : Sh} {on : Nat → Bool}
theorem RefAt.rd (h : RefAt w rb mb cap S on) : RdB w (.slice (some ⟨mb, 0, none⟩) S.pages cap) S.pages on := ⟨_, _, rfl, .inr ⟨mb, rfl, fun _ hi => h.mark hi⟩⟩
theorem rSpans_any (h : RefAt w rb mb cap S on) :
    Calls Try.prog 71 #[.pointer (some ⟨rb, 0, none⟩)] w fun e w' => ∃ v, e = .returned v ∧ Own w' w.heap.size v (runs on S.data S.pages) ∧ Kp [] w w' := by
  obtain ⟨c0, c1, c2, c3, c4⟩ := h.cells
  have o1 := h.ok.p2; have o4 := h.ok.d2
  have hr : runsTo on 0 S.pages = runs on S.data S.pages := by
    have := runsTo_skips on S.data (S.pages - S.data) h.low
    rw [show S.data + (S.pages - S.data) = S.pages by omega] at this
    exact this
  have hsp := rspans_any h.rd (by omega)
  rw [hr] at hsp
  have HSP := hide hsp
  clear hsp
  clear h c0 c1 c2 c3 hr
  go_enter Try.func71, Try.ntmps71
  go_wp2_with (go_at_call 74; refine HSP.out.mono ?_; rintro e w' ⟨v, rfl, ho, hk⟩; have HO := hide ho; have HK := hide hk; clear ho hk)
  go_ret
  exact ⟨v, rfl, HO.out, HK.out⟩

set_option maxHeartbeats 2000000 in
set_option maxRecDepth 100000 in
theorem rCore_gen (h : RefAt w rb mb cap S on) (c : Int) (F C : Nat) (hF : F ≤ 1024) (hC : F + C ≤ S.pages)
    (ha : ∀ W : World, RefAt W rb mb cap S on → Calls Try.prog 66 #[.pointer (some ⟨rb, 0, none⟩), .int .i64 c] W fun e w' => e = .returned (.agg #[.int .i64 F, .int .i64 C]) ∧ Kp [] W w') :
    Calls Try.prog 70 #[.pointer (some ⟨rb, 0, none⟩), .int .i64 c] w fun e w' => ∃ v, e = .returned v ∧ Own w' w.heap.size v (runsTo on F C) ∧ Kp [] w w' := by
  have o1 := h.ok.p2
  have hbl := h.lt
  have hml := h.mlt
  have H := hide h
  have HA := hide ha
  clear h ha
  go_enter Try.func70, Try.ntmps70
  go_wp2_with fail
  refine (HA.out _ H.out).mono ?_
  rintro e w1 ⟨rfl, hk1⟩
  go_wp2_with fail
  have hkx : Kp [] w (w1.alloc (.cells #[.int .i64 F, .int .i64 C] 31)) := hk1.alloc _
  have hzx := blk_new w1 (.cells #[.int .i64 F, .int .i64 C] 31)
  generalize w1.alloc (.cells #[.int .i64 F, .int .i64 C] 31) = wa at hkx hzx ⊢
  have hsw := hkx.size
  have HKX := hide hkx
  have HZX := hide hzx
  clear hkx hzx
  clear hk1
  go_loopw [6, 7] (fun l i wr => ∃ k : Nat, k ≤ S.pages ∧ i = .int .i64 k ∧ OwnB wr wa.heap.size l k (cutTo on F C) ∧ Kp [] wa wr) (fun _ i _ => S.pages - (intOf i).toNat)
  case atStart => exact ⟨0, by omega, rfl, OwnB.nil _ _ _, Kp.refl _ _⟩
  case round =>
    obtain ⟨k, hk, rfl, hown, hkr⟩ := hrel
    obtain ⟨v, rfl⟩ : ∃ v, v = u6 := ⟨_, rfl⟩
    have hre := H.out.keep (HKX.out.trans' hkr) (by simp) (by simp)
    obtain ⟨c0, c1, c2, c3, c4⟩ := hre.cells
    obtain ⟨z0, z1⟩ := blk2 (hkr.blk HZX.out (by simp))
    have hsr := hkr.size
    clear c0 c1 c2 c3
    by_cases hlt : k < S.pages
    · have m0 := hre.mark hlt
      have i1 : (0 : Int) ≤ (k : Int) := by omega
      have i2 : (k : Int) < (S.pages : Int) := by omega
      have hlts : ∀ x, v.ownBlock = some x → wa.heap.size ≤ x := fun x hx => (hown.lt x hx).1
      have hgd : cutTo on F C k = (on k && decide (F ≤ k) && decide (k < F + C)) := rfl
      cases ho : on k with
      | false =>
        rw [ho] at m0 hgd
        simp only [Bool.false_and] at hgd
        have HO := hide hown
        have HKR := hide hkr
        have HLT := hide hlts
        have HG := hide hgd
        have HON := hide ho
        clear hown hkr hlts hgd ho
        clear hre
        go_wp2_with (at_builtin; refine app_bool rfl _ _ rfl wa.heap.size v k (cutTo on F C) rfl (HO.out.keep ((Kp.refl [] _).alloc _) (by simp)) _ false HG.out.symm _ rfl (blk_new' (by simp) _) (by omega) (by simp; omega) ?_; intro v' w6 hown6 hgr; have hk6 : Kp [] wa w6 := (HKR.out.alloc _).grown hgr (fun x hx => .inr (HLT.out x hx)); have HO6 := hide hown6; have HK6 := hide hk6; clear hown6 hgr hk6)
        go_roundw
        case rel => exact ⟨k + 1, by omega, by go_num, HO6.out, HK6.out⟩
        case measure => simp [intOf]; omega
      | true =>
        rw [ho] at m0 hgd
        simp only [Bool.true_and] at hgd
        by_cases h1 : F ≤ k
        · have d1 : decide ((F : Int) ≤ (k : Int)) = true := by simp; omega
          have d1' : decide (F ≤ k) = true := by simp; omega
          rw [d1'] at hgd
          simp only [Bool.true_and] at hgd
          by_cases h2 : k < F + C
          · have d2 : decide ((k : Int) < (F : Int) + (C : Int)) = true := by simp; omega
            have d2' : decide (k < F + C) = true := by simp; omega
            rw [d2'] at hgd
            have HO := hide hown
            have HKR := hide hkr
            have HLT := hide hlts
            have HG := hide hgd
            have HON := hide ho
            clear hown hkr hlts hgd ho
            clear hre
            go_wp2_with (at_builtin; refine app_bool rfl _ _ rfl wa.heap.size v k (cutTo on F C) rfl (HO.out.keep ((Kp.refl [] _).alloc _) (by simp)) _ true HG.out.symm _ rfl (blk_new' (by simp) _) (by omega) (by simp; omega) ?_; intro v' w6 hown6 hgr; have hk6 : Kp [] wa w6 := (HKR.out.alloc _).grown hgr (fun x hx => .inr (HLT.out x hx)); have HO6 := hide hown6; have HK6 := hide hk6; clear hown6 hgr hk6)
            go_roundw
            case rel => exact ⟨k + 1, by omega, by go_num, HO6.out, HK6.out⟩
            case measure => simp [intOf]; omega
          · have d2 : decide ((k : Int) < (F : Int) + (C : Int)) = false := by simp; omega
            have d2' : decide (k < F + C) = false := by simp; omega
            rw [d2'] at hgd
            have HO := hide hown
            have HKR := hide hkr
            have HLT := hide hlts
            have HG := hide hgd
            have HON := hide ho
            clear hown hkr hlts hgd ho
            clear hre
            go_wp2_with (at_builtin; refine app_bool rfl _ _ rfl wa.heap.size v k (cutTo on F C) rfl (HO.out.keep ((Kp.refl [] _).alloc _) (by simp)) _ false HG.out.symm _ rfl (blk_new' (by simp) _) (by omega) (by simp; omega) ?_; intro v' w6 hown6 hgr; have hk6 : Kp [] wa w6 := (HKR.out.alloc _).grown hgr (fun x hx => .inr (HLT.out x hx)); have HO6 := hide hown6; have HK6 := hide hk6; clear hown6 hgr hk6)
            go_roundw
            case rel => exact ⟨k + 1, by omega, by go_num, HO6.out, HK6.out⟩
            case measure => simp [intOf]; omega
        · have d1 : decide ((F : Int) ≤ (k : Int)) = false := by simp; omega
          have d1' : decide (F ≤ k) = false := by simp; omega
          rw [d1'] at hgd
          simp only [Bool.false_and] at hgd
          have HO := hide hown
          have HKR := hide hkr
          have HLT := hide hlts
          have HG := hide hgd
          have HON := hide ho
          clear hown hkr hlts hgd ho
          clear hre
          go_wp2_with (at_builtin; refine app_bool rfl _ _ rfl wa.heap.size v k (cutTo on F C) rfl (HO.out.keep ((Kp.refl [] _).alloc _) (by simp)) _ false HG.out.symm _ rfl (blk_new' (by simp) _) (by omega) (by simp; omega) ?_; intro v' w6 hown6 hgr; have hk6 : Kp [] wa w6 := (HKR.out.alloc _).grown hgr (fun x hx => .inr (HLT.out x hx)); have HO6 := hide hown6; have HK6 := hide hk6; clear hown6 hgr hk6)
          go_roundw
          case rel => exact ⟨k + 1, by omega, by go_num, HO6.out, HK6.out⟩
          case measure => simp [intOf]; omega
    · have hkn : k = S.pages := by omega
      subst hkn
      have hsp := rspans_any hown.rd (by omega)
      rw [runs_cut on F C _ hC] at hsp
      have hkw := HKX.out.trans' hkr
      have HSP := hide hsp
      have HKW := hide hkw
      clear hsp hkw
      clear hre hown hkr
      go_wp2_with (go_at_call 74; refine HSP.out.mono ?_; rintro e w' ⟨v', rfl, ho, hk⟩; have HO := hide ho; have HK := hide hk; clear ho hk)
      go_ret
      exact ⟨v', rfl, HO.out.low (by have := HKW.out.size; omega), HKW.out.trans' HK.out⟩
theorem rCore_in (h : RefAt w rb mb cap S on) (c : Int) (c' : Nat) (hcc : c = c') (hc : c' < S.cores) :
    Calls Try.prog 70 #[.pointer (some ⟨rb, 0, none⟩), .int .i64 c] w fun e w' => ∃ v, e = .returned v ∧ Own w' w.heap.size v (runs on (S.lo c') (S.lo (c' + 1))) ∧ Kp [] w w' := by
  obtain ⟨C, hC⟩ : ∃ C, S.lo (c' + 1) = S.lo c' + C := ⟨S.lo (c' + 1) - S.lo c', by have := Sh.lo_lt h.ok c'; omega⟩
  have hlb := Sh.lo_bd h.ok (c' + 1) (by omega)
  have o1 := h.ok.p2
  have e : runs on (S.lo c') (S.lo (c' + 1)) = runsTo on (S.lo c') C := by unfold runs; rw [hC, Nat.add_sub_cancel_left]
  rw [e]
  exact rCore_gen h c (S.lo c') C (by omega) (by omega) (fun W hW => rArea_in hW c c' _ C hcc hc rfl hC)
theorem rCore_out (h : RefAt w rb mb cap S on) (c : Int) (hc : c < 0 ∨ (S.cores : Int) ≤ c) :
    Calls Try.prog 70 #[.pointer (some ⟨rb, 0, none⟩), .int .i64 c] w fun e w' => ∃ v, e = .returned v ∧ Own w' w.heap.size v [] ∧ Kp [] w w' :=
  rCore_gen h c 0 0 (by omega) (by have := h.ok.p1; omega) (fun W hW => rArea_out hW c hc)
end
end Go.Proofs.Ytoghdhjeopcjkaa
