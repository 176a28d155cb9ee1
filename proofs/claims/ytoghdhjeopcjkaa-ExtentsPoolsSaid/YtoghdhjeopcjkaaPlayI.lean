/- The laws' Play with its four pools: what it holds. Conditions: none. -/
import Derived.Test.YtoghdhjeopcjkaaLooks
import Derived.Test.YtoghdhjeopcjkaaCopyP
namespace Go.Proofs.Ytoghdhjeopcjkaa
open Go.RowKit Go.Deep

theorem and3 {x : Int} (h : I64 x) : bits .and .i64 x 3 = x % 4 := by
  obtain ⟨h1, h2⟩ := h
  show IntKind.i64.wrap ((BitVec.ofInt 64 x &&& BitVec.ofInt 64 3).toNat : Int) = _
  rw [BitVec.toNat_and, BitVec.toNat_ofInt, show (BitVec.ofInt 64 3).toNat = 2 ^ 2 - 1 from by decide, Nat.and_two_pow_sub_one_eq_mod, IntKind.wrap_i64]
  omega

/-- A slot of the play. -/
structure Slot where
  b : Nat
  wb : Nat
  cap : Nat
  rb : Nat
  mb : Nat
  rc : Nat
  S : Sh
  on : Nat → Bool
def Slot.own (s : Slot) (x : Nat) : Prop := x = s.b ∨ x = s.wb ∨ x = s.rb ∨ x = s.mb
def ptrX (s : Option Slot) : Value := .pointer (s.map fun s => ⟨s.b, 0, none⟩)
def ptrY (s : Option Slot) : Value := .pointer (s.map fun s => ⟨s.rb, 0, none⟩)
structure SlotOk (w : World) (base pb : Nat) (s : Slot) : Prop where
  tw : Twin w s.b s.wb s.cap s.rb s.mb s.rc s.S s.on
  n1 : s.b ≠ s.rb
  n2 : s.b ≠ s.mb
  n3 : s.wb ≠ s.rb
  n4 : s.wb ≠ s.mb
  lo : ∀ x, s.own x → base ≤ x ∧ x ≠ pb
theorem SlotOk.lt {w : World} {base pb : Nat} {s : Slot} (h : SlotOk w base pb s) : ∀ x, s.own x → x < w.heap.size := by
  intro x hx
  rcases hx with rfl | rfl | rfl | rfl
  · exact h.tw.pool.m.lt
  · exact h.tw.pool.m.wlt
  · exact h.tw.ref.lt
  · exact h.tw.ref.mlt
theorem SlotOk.keep {w w' : World} {base pb : Nat} {s : Slot} {T : Nat → Prop} (h : SlotOk w base pb s) (k : Kq T w w') (hT : ∀ x, s.own x → ¬ T x) : SlotOk w' base pb s := by
  obtain ⟨L, k1, k2⟩ := k
  exact ⟨⟨h.tw.pool.keep k2 (fun hx => hT _ (.inl rfl) (k1 _ hx)) (fun hx => hT _ (.inr (.inl rfl)) (k1 _ hx)), h.tw.ref.keep k2 (fun hx => hT _ (.inr (.inr (.inl rfl))) (k1 _ hx)) (fun hx => hT _ (.inr (.inr (.inr rfl))) (k1 _ hx))⟩, h.n1, h.n2, h.n3, h.n4, h.lo⟩
/-- The play lies in block pb; slot j holds st j. -/
structure PlayAt (w : World) (base pb : Nat) (st : Nat → Option Slot) : Prop where
  row : ∃ c : Array Value, w.heap[pb]? = some (.cells c 83 (0, 0)) ∧ c.size = 16 ∧ ∀ j, j < 4 → c[8 + j]? = some (ptrX (st j)) ∧ c[12 + j]? = some (ptrY (st j))
  ok : ∀ j, j < 4 → ∀ s, st j = some s → SlotOk w base pb s
  apart : ∀ j k, j < 4 → k < 4 → j ≠ k → ∀ s t, st j = some s → st k = some t → ∀ x, s.own x → ¬ t.own x
  lo : base ≤ pb
section
variable {w w' : World} {base pb : Nat} {st : Nat → Option Slot}
theorem PlayAt.lt (h : PlayAt w base pb st) : pb < w.heap.size := by obtain ⟨c, h1, _⟩ := h.row; exact blk_lt h1
theorem PlayAt.cx (h : PlayAt w base pb st) {j : Nat} (hj : j < 4) : w.cell? ⟨pb, 8 + j, none⟩ = some (ptrX (st j)) := by
  obtain ⟨c, h1, _, h2⟩ := h.row
  rw [blk_cell h1]; exact (h2 j hj).1
theorem PlayAt.cy (h : PlayAt w base pb st) {j : Nat} (hj : j < 4) : w.cell? ⟨pb, 12 + j, none⟩ = some (ptrY (st j)) := by
  obtain ⟨c, h1, _, h2⟩ := h.row
  rw [blk_cell h1]; exact (h2 j hj).2
theorem PlayAt.f (h : PlayAt w base pb st) (i : Nat) : w.frozen? ⟨pb, i, none⟩ = false := by obtain ⟨c, h1, _⟩ := h.row; exact blk_free h1 i
theorem PlayAt.keep0 (h : PlayAt w base pb st) (k : Kp [] w w') : PlayAt w' base pb st := by
  obtain ⟨c, h1, h2, h3⟩ := h.row
  exact ⟨⟨c, k.blk h1 (by simp), h2, h3⟩, fun j hj s hs => (h.ok j hj s hs).keep (T := fun _ => False) (k.q.mono (by simp)) (fun _ _ h => h), h.apart, h.lo⟩
/-- A step on one slot's own blocks. -/
theorem PlayAt.step (h : PlayAt w base pb st) {j : Nat} (hj : j < 4) {s s' : Slot} (hs : st j = some s) (k : Kq s.own w w') (hb : s'.b = s.b ∧ s'.wb = s.wb ∧ s'.rb = s.rb ∧ s'.mb = s.mb) (ht : Twin w' s'.b s'.wb s'.cap s'.rb s'.mb s'.rc s'.S s'.on) :
    PlayAt w' base pb (fun i => if i = j then some s' else st i) := by
  obtain ⟨c, h1, h2, h3⟩ := h.row
  have hok := h.ok j hj s hs
  have hown : ∀ x, s'.own x ↔ s.own x := fun x => by unfold Slot.own; rw [hb.1, hb.2.1, hb.2.2.1, hb.2.2.2]
  refine ⟨⟨c, k.blk h1 (fun hx => (hok.lo _ hx).2 rfl), h2, fun i hi => ?_⟩, fun i hi t hit => ?_, fun i i2 hi hi2 hne t t2 hit hit2 x hx => ?_, h.lo⟩
  · by_cases e : i = j
    · subst e
      simp only [if_true]
      have := h3 i hi
      rw [hs] at this
      simp only [ptrX, ptrY, Option.map_some] at this ⊢
      rw [hb.1, hb.2.2.1]
      exact this
    · simp only [if_neg e]; exact h3 i hi
  · by_cases e : i = j
    · subst e
      simp only [if_true, Option.some.injEq] at hit
      subst hit
      exact ⟨ht, by rw [hb.1, hb.2.2.1]; exact hok.n1, by rw [hb.1, hb.2.2.2]; exact hok.n2, by rw [hb.2.1, hb.2.2.1]; exact hok.n3, by rw [hb.2.1, hb.2.2.2]; exact hok.n4, fun x hx => hok.lo x ((hown x).1 hx)⟩
    · simp only [if_neg e] at hit
      exact (h.ok i hi t hit).keep k (fun x hx => h.apart i j hi hj e t s hit hs x hx)
  · by_cases e : i = j
    · by_cases e2 : i2 = j
      · omega
      · simp only [if_pos e, Option.some.injEq] at hit
        simp only [if_neg e2] at hit2
        subst hit
        exact h.apart j i2 hj hi2 (Ne.symm e2) s t2 hs hit2 x ((hown x).1 hx)
    · by_cases e2 : i2 = j
      · simp only [if_neg e] at hit
        simp only [if_pos e2, Option.some.injEq] at hit2
        subst hit2
        exact fun hx2 => h.apart i j hi hj e t s hit hs x hx ((hown x).1 hx2)
      · simp only [if_neg e] at hit
        simp only [if_neg e2] at hit2
        exact h.apart i i2 hi hi2 hne t t2 hit hit2 x hx
/-- A slot written anew, with blocks that the play hasn't yet. -/
theorem PlayAt.put (h : PlayAt w base pb st) {j : Nat} (hj : j < 4) {s : Slot} (hs : SlotOk w base pb s) (hnew : ∀ i, i < 4 → ∀ t, st i = some t → ∀ x, s.own x → ¬ t.own x) :
    PlayAt ((w.setCell ⟨pb, 8 + j, none⟩ (.pointer (some ⟨s.b, 0, none⟩))).setCell ⟨pb, 12 + j, none⟩ (.pointer (some ⟨s.rb, 0, none⟩))) base pb (fun i => if i = j then some s else st i) := by
  obtain ⟨c, h1, h2, h3⟩ := h.row
  have k : Kq (fun x => x = pb) w ((w.setCell ⟨pb, 8 + j, none⟩ (.pointer (some ⟨s.b, 0, none⟩))).setCell ⟨pb, 12 + j, none⟩ (.pointer (some ⟨s.rb, 0, none⟩))) := (Kp.q (((Kp.refl [pb] _).set (by simp) _).set (by simp) _)).mono (by simp)
  refine ⟨⟨_, blk_set (blk_set h1 _) _, by simp [h2], fun i hi => ?_⟩, fun i hi t hit => ?_, fun i i2 hi hi2 hne t t2 hit hit2 x hx => ?_, h.lo⟩
  · by_cases e : i = j
    · subst e
      simp only [if_true, ptrX, ptrY, Option.map_some]
      refine ⟨?_, ?_⟩
      · rw [Array.getElem?_setIfInBounds, if_neg (by omega), Array.getElem?_setIfInBounds, if_pos rfl, if_pos (by omega)]
      · rw [Array.getElem?_setIfInBounds, if_pos rfl, if_pos (by simp [h2]; omega)]
    · simp only [if_neg e]
      refine ⟨?_, ?_⟩
      · rw [Array.getElem?_setIfInBounds, if_neg (by omega), Array.getElem?_setIfInBounds, if_neg (by omega)]; exact (h3 i hi).1
      · rw [Array.getElem?_setIfInBounds, if_neg (by omega), Array.getElem?_setIfInBounds, if_neg (by omega)]; exact (h3 i hi).2
  · by_cases e : i = j
    · subst e
      simp only [if_true, Option.some.injEq] at hit
      subst hit
      exact hs.keep k (fun x hx => (hs.lo x hx).2)
    · simp only [if_neg e] at hit
      exact (h.ok i hi t hit).keep k (fun x hx => ((h.ok i hi t hit).lo x hx).2)
  · by_cases e : i = j
    · by_cases e2 : i2 = j
      · omega
      · simp only [if_pos e, Option.some.injEq] at hit
        simp only [if_neg e2] at hit2
        subst hit
        exact hnew i2 hi2 t2 hit2 x hx
    · by_cases e2 : i2 = j
      · simp only [if_neg e] at hit
        simp only [if_pos e2, Option.some.injEq] at hit2
        subst hit2
        exact fun hx2 => hnew i hi t hit x hx2 hx
      · simp only [if_neg e] at hit
        simp only [if_neg e2] at hit2
        exact h.apart i i2 hi hi2 hne t t2 hit hit2 x hx
/-- A slot written anew, with blocks that the play hasn't yet, by any steps. -/
theorem PlayAt.put2 (h : PlayAt w base pb st) {j : Nat} (hj : j < 4) {s : Slot} (kp : Kp [pb] w w') (hb : ∀ c, w.heap[pb]? = some (.cells c 83 (0, 0)) → w'.heap[pb]? = some (.cells ((c.setIfInBounds (8 + j) (.pointer (some ⟨s.b, 0, none⟩))).setIfInBounds (12 + j) (.pointer (some ⟨s.rb, 0, none⟩))) 83 (0, 0))) (hs : SlotOk w' base pb s) (hnew : ∀ i, i < 4 → ∀ t, st i = some t → ∀ x, s.own x → ¬ t.own x) :
    PlayAt w' base pb (fun i => if i = j then some s else st i) := by
  obtain ⟨c, h1, h2, h3⟩ := h.row
  have k : Kq (fun x => x = pb) w w' := kp.q.mono (by simp)
  refine ⟨⟨_, hb c h1, by simp [h2], fun i hi => ?_⟩, fun i hi t hit => ?_, fun i i2 hi hi2 hne t t2 hit hit2 x hx => ?_, h.lo⟩
  · by_cases e : i = j
    · subst e
      simp only [if_true, ptrX, ptrY, Option.map_some]
      refine ⟨?_, ?_⟩
      · rw [Array.getElem?_setIfInBounds, if_neg (by omega), Array.getElem?_setIfInBounds, if_pos rfl, if_pos (by omega)]
      · rw [Array.getElem?_setIfInBounds, if_pos rfl, if_pos (by simp [h2]; omega)]
    · simp only [if_neg e]
      refine ⟨?_, ?_⟩
      · rw [Array.getElem?_setIfInBounds, if_neg (by omega), Array.getElem?_setIfInBounds, if_neg (by omega)]; exact (h3 i hi).1
      · rw [Array.getElem?_setIfInBounds, if_neg (by omega), Array.getElem?_setIfInBounds, if_neg (by omega)]; exact (h3 i hi).2
  · by_cases e : i = j
    · subst e
      simp only [if_true, Option.some.injEq] at hit
      subst hit
      exact hs
    · simp only [if_neg e] at hit
      exact (h.ok i hi t hit).keep k (fun x hx => ((h.ok i hi t hit).lo x hx).2)
  · by_cases e : i = j
    · by_cases e2 : i2 = j
      · omega
      · simp only [if_pos e, Option.some.injEq] at hit
        simp only [if_neg e2] at hit2
        subst hit
        exact hnew i2 hi2 t2 hit2 x hx
    · by_cases e2 : i2 = j
      · simp only [if_neg e] at hit
        simp only [if_pos e2, Option.some.injEq] at hit2
        subst hit2
        exact fun hx2 => hnew i hi t hit x hx2 hx
      · simp only [if_neg e] at hit
        simp only [if_neg e2] at hit2
        exact h.apart i i2 hi hi2 hne t t2 hit hit2 x hx
end
end Go.Proofs.Ytoghdhjeopcjkaa
