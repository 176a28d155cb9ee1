/- The walks of the laws' inside and pageAt. Conditions: the slice is read as told. -/
import Derived.Test.YtoghdhjeopcjkaaNearP
namespace Go.Proofs.Ytoghdhjeopcjkaa
open Go.RowKit

set_option maxHeartbeats 2000000 in
theorem inside_any {w : World} {v : Value} {P : List Nat} (h : RdS w v (spansOf P)) (hP : P.length ≤ 1024) (hb : ∀ i ∈ P, i < 1024) (F C : Nat) (hF : F ≤ 1024) (hC : C ≤ 1024) (hvb : ∀ x, v.ownBlock = some x → x < w.heap.size) :
    Calls Try.prog 31 #[v, .agg #[.int .i64 F, .int .i64 C]] w fun e w' => e = .returned (.int .i64 (cin F (F + C) P)) ∧ Kp [] w w' := by
  obtain ⟨a, c, rfl, h⟩ := h
  have hlen := spansOf_length P
  have hall := span_all (S := { pages := 1024, inodes := 0, cores := 0, data := 0 }) (P := P) (fun i hi => ⟨Nat.zero_le _, hb i hi⟩)
  have hpg := pagesL_spansOf P
  have hpl : ∀ k, cin F (F + C) (pagesL ((spansOf P).take k)) ≤ 1024 := by
    intro k
    have e : pagesL (spansOf P) = pagesL ((spansOf P).take k) ++ pagesL ((spansOf P).drop k) := by rw [← pagesL_append, List.take_append_drop]
    rw [pagesL_spansOf] at e
    have : P.length = (pagesL ((spansOf P).take k)).length + (pagesL ((spansOf P).drop k)).length := by rw [← List.length_append, ← e]
    have := cin_le F (F + C) (pagesL ((spansOf P).take k))
    omega
  generalize hl : spansOf P = l at *
  generalize hn : l.length = n at *
  have H := hide h
  have HA := hide hall
  have HPG := hide hpg
  have HPL := hide hpl
  have HN := hide hn
  clear h hall hpg hpl hn
  clear hl
  go_enter Try.func31, Try.ntmps31
  go_wp2
  have hbx0 : (w.alloc (.cells #[.int .i64 F, .int .i64 C] 31)).cell? ⟨w.heap.size, 0, none⟩ = some (.int .i64 F) := by rw [blk_cell (blk_new _ _)]; rfl
  have hbx1 : (w.alloc (.cells #[.int .i64 F, .int .i64 C] 31)).cell? ⟨w.heap.size, 1, none⟩ = some (.int .i64 C) := by rw [blk_cell (blk_new _ _)]; rfl
  have hk0 : Kp [] w (w.alloc (.cells #[.int .i64 F, .int .i64 C] 31)) := (Kp.refl _ _).alloc _
  generalize w.alloc (.cells #[.int .i64 F, .int .i64 C] 31) = wa at hbx0 hbx1 hk0 ⊢
  have BX0 := hide hbx0
  have BX1 := hide hbx1
  have HK0 := hide hk0
  clear hbx0 hbx1 hk0
  go_loopw [5, 6] (fun s i wr => ∃ k : Nat, k ≤ n ∧ i = .int .i64 k ∧ s = .int .i64 (cin F (F + C) (pagesL (l.take k)) : Nat) ∧ ∃ m, wr = wa.drewN m) (fun _ i _ => n - (intOf i).toNat)
  case atStart => exact ⟨0, by omega, rfl, by simp [pagesL, cin], 0, rfl⟩
  case round =>
    obtain ⟨wo, rfl⟩ : ∃ wo : World, wo = wr := ⟨_, rfl⟩
    obtain ⟨k, hk, rfl, rfl, m, rfl⟩ := hrel
    by_cases hlt : k < n
    · rcases H.out with e | ⟨g1, rfl, g⟩
      · have := HN.out; subst e; simp at this; omega
      obtain ⟨q1, q2⟩ := g k hlt
      have h3 := HA.out k hlt
      have hst := pagesL_take_succ l k (by rw [HN.out]; exact hlt)
      have hb0 := HPL.out k
      have hb1 := HPL.out (k + 1)
      generalize fr l k = f at q1 h3 hst
      generalize ct l k = c' at q2 h3 hst
      obtain ⟨f, rfl⟩ := Int.eq_ofNat_of_zero_le (show 0 ≤ f by omega)
      obtain ⟨c', rfl⟩ := Int.eq_ofNat_of_zero_le (show 0 ≤ c' by omega)
      simp only [Int.toNat_natCast] at hst
      rw [hst, cin_append] at hb1
      generalize hR : pagesL (l.take k) = R at hst hb0 hb1
      obtain ⟨h6, h7, h8⟩ := h3
      have r1 := HK0.out.cell q1 (by simp)
      have r2 := HK0.out.cell q2 (by simp)
      have bx0 := BX0.out
      have bx1 := BX1.out
      have hcr : ∀ t, t ≤ c' → cin F (F + C) R + cin F (F + C) (List.range' f t) ≤ 4096 := fun t ht => by have := cin_le F (F + C) (List.range' f t); rw [List.length_range'] at this; simp at h8; omega
      have hw0 : IntKind.i64.wrap ((f : Int) + (c' : Int)) = (f : Int) + (c' : Int) := by rw [IntKind.wrap_i64]; simp at h8; omega
      have h8' : (f : Int) + (c' : Int) ≤ 1024 := by simpa using h8
      clear h8
      have HST := hide hst
      have HR := hide hR
      have HCR := hide hcr
      clear hst hR hcr
      clear g q1 q2
      go_wp2
      go_loopw [5, 7] (fun s i wr => ∃ t : Nat, t ≤ c' ∧ i = .int .i64 ((f + t : Nat) : Int) ∧ s = .int .i64 ((cin F (F + C) R + cin F (F + C) (List.range' f t) : Nat) : Int) ∧ ∃ m, wr = wa.drewN m) (fun _ i _ => f + c' - (intOf i).toNat)
      case atStart => exact ⟨0, by omega, by go_num, by simp [cin], _, rfl⟩
      case round =>
        obtain ⟨t, ht, rfl, rfl, m2, rfl⟩ := hrel
        have hc1 := HCR.out t ht
        have hcs := cin_range F (F + C) f t
        by_cases htc : t < c'
        · have dlt : decide (f + t < f + c') = true := by simp; omega
          have dlt2 : decide ((f : Int) + (t : Int) < (f : Int) + (c' : Int)) = true := by simp; omega
          generalize hs0 : cin F (F + C) R + cin F (F + C) (List.range' f t) = s0 at hc1
          by_cases c1 : F ≤ f + t
          · by_cases c2 : f + t < F + C
            · have hcs1 : cin F (F + C) R + cin F (F + C) (List.range' f (t + 1)) = s0 + 1 := by rw [hcs, if_pos ⟨c1, c2⟩]; omega
              have HCS := hide hcs1
              clear hcs1
              clear hcs hs0
              have e1 : decide (F ≤ f + t) = true := by simpa using c1
              have e2 : decide ((F : Int) ≤ (f : Int) + (t : Int)) = true := by simp; omega
              have e3 : decide ((f : Int) + (t : Int) < (F : Int) + (C : Int)) = true := by simp; omega
              go_wp2
              go_quiet (fail)
              go_wp2
              go_roundw
              case rel => exact ⟨t + 1, by omega, by go_num, by rw [HCS.out]; go_num, _, rfl⟩
              case measure => simp [intOf]; omega
            · have hcs1 : cin F (F + C) R + cin F (F + C) (List.range' f (t + 1)) = s0 := by rw [hcs, if_neg (fun h => c2 h.2)]; omega
              have HCS := hide hcs1
              clear hcs1
              clear hcs hs0
              have e1 : decide (F ≤ f + t) = true := by simpa using c1
              have e2 : decide ((F : Int) ≤ (f : Int) + (t : Int)) = true := by simp; omega
              have e3 : decide ((f : Int) + (t : Int) < (F : Int) + (C : Int)) = false := by simp; omega
              go_wp2
              go_quiet (fail)
              go_wp2
              go_roundw
              case rel => exact ⟨t + 1, by omega, by go_num, by rw [HCS.out], _, rfl⟩
              case measure => simp [intOf]; omega
          · have hcs1 : cin F (F + C) R + cin F (F + C) (List.range' f (t + 1)) = s0 := by rw [hcs, if_neg (fun h => c1 h.1)]; omega
            have HCS := hide hcs1
            clear hcs1
            clear hcs hs0
            have e1 : decide (F ≤ f + t) = false := by simpa using c1
            have e2 : decide ((F : Int) ≤ (f : Int) + (t : Int)) = false := by simp; omega
            go_wp2
            go_quiet (fail)
            go_wp2
            go_roundw
            case rel => exact ⟨t + 1, by omega, by go_num, by rw [HCS.out], _, rfl⟩
            case measure => simp [intOf]; omega
        · have htc : t = c' := by omega
          subst htc
          have dlt : decide (f + t < f + t) = false := by simp
          have dlt2 : decide ((f : Int) + (t : Int) < (f : Int) + (t : Int)) = false := by simp
          clear hcs
          go_wp2
          go_quiet (fail)
          go_wp2
          go_roundw
          case rel => exact ⟨k + 1, by omega, by go_num, by rw [HST.out, cin_append], _, rfl⟩
          case measure => simp [intOf]; omega
    · have hkn : k = n := by omega
      subst hkn
      have e0 : l.take k = l := by rw [← HN.out]; exact List.take_length
      rw [e0, HPG.out]
      clear e0
      go_wp2
      go_ret
      exact ⟨rfl, HK0.out.drewN _⟩

set_option maxHeartbeats 2000000 in
theorem pageAt_any {w : World} {v : Value} {P : List Nat} (h : RdS w v (spansOf P)) (hP : P.length ≤ 1024) (hb : ∀ i ∈ P, i < 1024) (i x : Nat) (hi : P[i]? = some x) :
    Calls Try.prog 32 #[v, .int .i64 i] w fun e w' => e = .returned (.int .i64 x) ∧ ∃ k, w' = w.drewN k := by
  obtain ⟨a, c, rfl, h⟩ := h
  obtain ⟨hil, hix⟩ := List.getElem?_eq_some_iff.1 hi
  have hlen := spansOf_length P
  have hall := span_all (S := { pages := 1024, inodes := 0, cores := 0, data := 0 }) (P := P) (fun i hi => ⟨Nat.zero_le _, hb i hi⟩)
  have hpg := pagesL_spansOf P
  have hat := fun k (hk : k < (spansOf P).length) h1 h2 => page_at (i := i) hk h1 h2
  have hst := pagesL_take_succ (spansOf P)
  generalize hl : spansOf P = l at *
  generalize hn : l.length = n at *
  have H := hide h
  have HA := hide hall
  have HPG := hide hpg
  have HN := hide hn
  have HAT := hide hat
  have HST := hide hst
  have HI := hide hi
  have HIX := hide hix
  clear h hall hpg hn hat hst hi hix
  clear hl
  go_enter Try.func32, Try.ntmps32
  go_wp2
  go_loopw [1, 5] (fun s q wr => ∃ k m : Nat, k ≤ n ∧ q = .int .i64 k ∧ s = .int .i64 m ∧ Hid (m + (pagesL (l.take k)).length = i) ∧ ∃ m, wr = w.drewN m) (fun _ i _ => n - (intOf i).toNat)
  case atStart => exact ⟨0, i, by omega, rfl, rfl, by rw [show pagesL (l.take 0) = [] from by simp [pagesL]]; rfl, 0, rfl⟩
  case round =>
    obtain ⟨k, m, hk, rfl, rfl, hm, m2, rfl⟩ := hrel
    have hmb : m ≤ 1024 := by have := hm.out; omega
    by_cases hlt : k < n
    · rcases H.out with e | ⟨g1, rfl, g⟩
      · have := HN.out; subst e; simp at this; omega
      obtain ⟨q1, q2⟩ := g k hlt
      have h3 := HA.out k hlt
      have hs := HST.out k hlt
      have ha := HAT.out k hlt
      generalize fr l k = f at q1 h3 hs ha
      generalize ct l k = c' at q2 h3 hs ha
      obtain ⟨f, rfl⟩ := Int.eq_ofNat_of_zero_le (show 0 ≤ f by omega)
      obtain ⟨c', rfl⟩ := Int.eq_ofNat_of_zero_le (show 0 ≤ c' by omega)
      simp only [Int.toNat_natCast] at hs
      generalize pagesL (l.take k) = R at hm hs ha
      obtain ⟨h6, h7, h8⟩ := h3
      have h8' : (f : Int) + (c' : Int) ≤ 1024 := by simpa using h8
      clear h8
      by_cases hmc : m < c'
      · have hx : (f : Int) + (m : Int) = (x : Int) := by
          obtain ⟨_, hx⟩ := ha (by have := hm.out; omega) (by have := hm.out; omega)
          have h9 := HIX.out
          have h10 := hm.out
          rw [h9] at hx
          omega
        have HX := hide hx
        clear hx
        clear g hs ha
        go_wp2
        go_ret
        exact ⟨by rw [HX.out]; rfl, _, rfl⟩
      · have hm2 : Hid (m - c' + (pagesL (l.take (k + 1))).length = i) := by
          have h10 := hm.out
          unfold Hid
          rw [hs, List.length_append, List.length_range']; omega
        clear g hs ha
        go_wp2
        go_roundw
        case rel => exact ⟨k + 1, m - c', by omega, by go_num, by go_num, hm2, _, rfl⟩
        case measure => simp [intOf]; omega
    · have hkn : k = n := by omega
      subst hkn
      exfalso
      have h10 := hm.out
      rw [show l.take k = l by rw [← HN.out]; exact List.take_length, HPG.out] at h10
      omega

/-- A row of ints of the law's own, its first k told. -/
structure BeforeAt (w : World) (ab n : Nat) (f : Nat → Nat) (k : Nat) : Prop where
  row : ∃ cc : Array Value, w.heap[ab]? = some (.cells cc 3 (0, 0)) ∧ cc.size = n ∧ ∀ j, j < k → cc[j]? = some (.int .i64 (f j))
theorem BeforeAt.keep {L : List Nat} {w w' : World} {ab n k : Nat} {f : Nat → Nat} (h : BeforeAt w ab n f k) (hk : Kp L w w') (ha : ab ∉ L) : BeforeAt w' ab n f k := by
  obtain ⟨cc, h1, h2, h3⟩ := h.row
  exact ⟨⟨cc, hk.blk h1 ha, h2, h3⟩⟩
theorem BeforeAt.has {w : World} {ab n k j : Nat} {f : Nat → Nat} (h : BeforeAt w ab n f k) (hj : j < n) : (∃ x, w.cell? ⟨ab, j, none⟩ = some x) ∧ w.frozen? ⟨ab, j, none⟩ = false := by
  obtain ⟨cc, h1, h2, _⟩ := h.row
  exact ⟨⟨cc[j]'(by omega), by rw [blk_cell h1]; exact Array.getElem?_eq_getElem _⟩, blk_free h1 j⟩
theorem BeforeAt.get {w : World} {ab n k j : Nat} {f : Nat → Nat} (h : BeforeAt w ab n f k) (hj : j < k) : w.cell? ⟨ab, j, none⟩ = some (.int .i64 (f j)) := by
  obtain ⟨cc, h1, _, h3⟩ := h.row
  rw [blk_cell h1]; exact h3 j hj
theorem BeforeAt.lt {w : World} {ab n k : Nat} {f : Nat → Nat} (h : BeforeAt w ab n f k) : ab < w.heap.size := by
  obtain ⟨cc, h1, _⟩ := h.row
  exact blk_lt h1
theorem BeforeAt.put {w : World} {ab n k : Nat} {f : Nat → Nat} (h : BeforeAt w ab n f k) (hk : k < n) {x : Int} (hx : x = f k) : BeforeAt (w.setCell ⟨ab, k, none⟩ (.int .i64 x)) ab n f (k + 1) := by
  subst hx
  obtain ⟨cc, h1, h2, h3⟩ := h.row
  refine ⟨⟨_, blk_set h1 _, by simp [h2], fun j hj => ?_⟩⟩
  by_cases e : j = k
  · subst e; simp [h2, hk]
  · rw [Array.getElem?_setIfInBounds, if_neg (by omega)]; exact h3 j (by omega)
theorem BeforeAt.new {w : World} {ab n : Nat} {f : Nat → Nat} (h : w.heap[ab]? = some (.cells (madeCells #[.int .i64 0] n) 3 (0, 0))) : BeforeAt w ab n f 0 :=
  ⟨⟨_, h, by simp [madeCells], fun j hj => by omega⟩⟩
end Go.Proofs.Ytoghdhjeopcjkaa
