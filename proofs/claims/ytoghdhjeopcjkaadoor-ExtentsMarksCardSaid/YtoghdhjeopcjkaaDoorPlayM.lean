
/- The laws' Play with its four bitmaps: what it holds. Conditions: none. -/
import Derived.Test.YtoghdhjeopcjkaaDoorRb3
import Derived.Test.YtoghdhjeopcjkaaDoorMerge
import Derived.Test.YtoghdhjeopcjkaaDoorKq
namespace Go.Proofs.YtoghdhjeopcjkaaDoor
open Go.RowKit Go.Deep

theorem and3 {x : Int} (h : I64 x) : bits .and .i64 x 3 = x % 4 := by
  obtain ⟨h1, h2⟩ := h
  show IntKind.i64.wrap ((BitVec.ofInt 64 x &&& BitVec.ofInt 64 3).toNat : Int) = _
  rw [BitVec.toNat_and, BitVec.toNat_ofInt, show (BitVec.ofInt 64 3).toNat = 2 ^ 2 - 1 from by decide, Nat.and_two_pow_sub_one_eq_mod, IntKind.wrap_i64]
  omega
theorem slot_of (x : Int) (h : I64 x) : ∃ j : Nat, j < 4 ∧ bits .and .i64 x 3 = (j : Int) := ⟨(x % 4).toNat, by omega, by rw [and3 h]; omega⟩

/-- A slot of the play. -/
structure MSlot where
  b : Nat
  wb : Nat
  cap : Nat
  rb : Nat
  ra : Option Addr
  rc : Nat
  n : Nat
  on : Nat → Bool
def MSlot.v (s : MSlot) : Value := .slice s.ra s.n s.rc
def MSlot.own (s : MSlot) (x : Nat) : Prop := x = s.b ∨ x = s.wb ∨ x = s.rb ∨ s.v.ownBlock = some x
def ptrM (s : Option MSlot) : Value := .pointer (s.map fun s => ⟨s.b, 0, none⟩)
def ptrR (s : Option MSlot) : Value := .pointer (s.map fun s => ⟨s.rb, 0, none⟩)
structure MOk (w : World) (base pb : Nat) (s : MSlot) : Prop where
  m : BmAt w s.b s.wb s.cap s.n s.on
  r : RbAt w base s.rb s.ra s.rc s.n s.on
  n1 : s.b ≠ s.rb
  n2 : s.wb ≠ s.rb
  n3 : ∀ g, s.v.ownBlock = some g → g ≠ s.b ∧ g ≠ s.wb
  lo : ∀ x, s.own x → base ≤ x ∧ x ≠ pb
theorem MOk.lt {w : World} {base pb : Nat} {s : MSlot} (h : MOk w base pb s) : ∀ x, s.own x → x < w.heap.size := by
  intro x hx
  rcases hx with rfl | rfl | rfl | hx
  · exact h.m.lt
  · exact h.m.wlt
  · exact h.r.lt
  · exact (h.r.row.lt x hx).2
theorem MOk.keep {w w' : World} {base pb : Nat} {s : MSlot} {T : Nat → Prop} (h : MOk w base pb s) (k : Kq T w w') (hT : ∀ x, s.own x → ¬ T x) : MOk w' base pb s := by
  obtain ⟨L, k1, k2⟩ := k
  exact ⟨h.m.keep k2 (fun hx => hT _ (.inl rfl) (k1 _ hx)) (fun hx => hT _ (.inr (.inl rfl)) (k1 _ hx)), h.r.keep k2 (fun hx => hT _ (.inr (.inr (.inl rfl))) (k1 _ hx)) (fun g hg hx => hT _ (.inr (.inr (.inr hg))) (k1 _ hx)), h.n1, h.n2, h.n3, h.lo⟩
/-- The play lies in block pb; slot j holds st j. -/
structure MPlayAt (w : World) (base pb : Nat) (st : Nat → Option MSlot) : Prop where
  row : ∃ c : Array Value, w.heap[pb]? = some (.cells c 34 (0, 0)) ∧ c.size = 16 ∧ ∀ j, j < 4 → c[j]? = some (ptrM (st j)) ∧ c[4 + j]? = some (ptrR (st j))
  ok : ∀ j, j < 4 → ∀ s, st j = some s → MOk w base pb s
  apart : ∀ j k, j < 4 → k < 4 → j ≠ k → ∀ s t, st j = some s → st k = some t → ∀ x, s.own x → ¬ t.own x
  lo : base ≤ pb
  pos : 0 < base
  tab : TabOk w
section
variable {w w' : World} {base pb : Nat} {st : Nat → Option MSlot}
theorem MPlayAt.lt (h : MPlayAt w base pb st) : pb < w.heap.size := by obtain ⟨c, h1, _⟩ := h.row; exact blk_lt h1
theorem MPlayAt.cx (h : MPlayAt w base pb st) {j : Nat} (hj : j < 4) : w.cell? ⟨pb, j, none⟩ = some (ptrM (st j)) := by
  obtain ⟨c, h1, _, h2⟩ := h.row
  rw [blk_cell h1]; exact (h2 j hj).1
theorem MPlayAt.cy (h : MPlayAt w base pb st) {j : Nat} (hj : j < 4) : w.cell? ⟨pb, 4 + j, none⟩ = some (ptrR (st j)) := by
  obtain ⟨c, h1, _, h2⟩ := h.row
  rw [blk_cell h1]; exact (h2 j hj).2
theorem MPlayAt.f (h : MPlayAt w base pb st) (i : Nat) : w.frozen? ⟨pb, i, none⟩ = false := by obtain ⟨c, h1, _⟩ := h.row; exact blk_free h1 i
theorem TabOk.keepq {T : Nat → Prop} {w w' : World} (h : TabOk w) (k : Kq T w w') (h0 : ¬ T 0) : TabOk w' := by
  obtain ⟨L, h1, h2⟩ := k
  exact h.keep h2 fun hx => h0 (h1 _ hx)
theorem MPlayAt.keep0 (h : MPlayAt w base pb st) (k : Kp [] w w') : MPlayAt w' base pb st := by
  obtain ⟨c, h1, h2, h3⟩ := h.row
  exact ⟨⟨c, k.blk h1 (by simp), h2, h3⟩, fun j hj s hs => (h.ok j hj s hs).keep (T := fun _ => False) (k.q.mono (by simp)) (fun _ _ h => h), h.apart, h.lo, h.pos, h.tab.keep k (by simp)⟩
/-- A step on one slot's own blocks. -/
theorem MPlayAt.step (h : MPlayAt w base pb st) {j : Nat} (hj : j < 4) {s s' : MSlot} (hs : st j = some s) (k : Kq s.own w w') (hb : s'.b = s.b ∧ s'.wb = s.wb ∧ s'.rb = s.rb ∧ s'.v = s.v) (ht : BmAt w' s'.b s'.wb s'.cap s'.n s'.on) (hr : RbAt w' base s'.rb s'.ra s'.rc s'.n s'.on) :
    MPlayAt w' base pb (fun i => if i = j then some s' else st i) := by
  obtain ⟨c, h1, h2, h3⟩ := h.row
  have hok := h.ok j hj s hs
  have hown : ∀ x, s'.own x ↔ s.own x := fun x => by unfold MSlot.own; rw [hb.1, hb.2.1, hb.2.2.1, hb.2.2.2]
  refine ⟨⟨c, k.blk h1 (fun hx => (hok.lo _ hx).2 rfl), h2, fun i hi => ?_⟩, fun i hi t hit => ?_, fun i i2 hi hi2 hne t t2 hit hit2 x hx => ?_, h.lo, h.pos, h.tab.keepq k (fun hx => by have := (hok.lo _ hx).1; have := h.pos; omega)⟩
  · by_cases e : i = j
    · subst e
      simp only [if_true]
      have := h3 i hi
      rw [hs] at this
      simp only [ptrM, ptrR, Option.map_some] at this ⊢
      rw [hb.1, hb.2.2.1]
      exact this
    · simp only [if_neg e]; exact h3 i hi
  · by_cases e : i = j
    · subst e
      simp only [if_true, Option.some.injEq] at hit
      subst hit
      exact ⟨ht, hr, by rw [hb.1, hb.2.2.1]; exact hok.n1, by rw [hb.2.1, hb.2.2.1]; exact hok.n2, by rw [hb.1, hb.2.1, hb.2.2.2]; exact hok.n3, fun x hx => hok.lo x ((hown x).1 hx)⟩
    · simp only [if_neg e] at hit
      exact (h.ok i hi t hit).keep k (fun x hx => h.apart i j hi hj e t s hit hs x hx)
  · by_cases e : i = j
    · by_cases e2 : i2 = j
      · omega
      · simp only [if_pos e, Option.some.injEq] at hit
        simp only [if_neg e2] at hit2
        subst hit
        exact h.apart j i2 hj hi2 (Ne.symm e2) s t2 hs hit2 x ((hown x).1 hx)
    · by_cases e2 : i2 = j
      · simp only [if_neg e] at hit
        simp only [if_pos e2, Option.some.injEq] at hit2
        subst hit2
        exact fun hx2 => h.apart i j hi hj e t s hit hs x hx ((hown x).1 hx2)
      · simp only [if_neg e] at hit
        simp only [if_neg e2] at hit2
        exact h.apart i i2 hi hi2 hne t t2 hit hit2 x hx
/-- A slot written anew, with blocks that the play hasn't yet, by any steps. -/
theorem MPlayAt.put2 (h : MPlayAt w base pb st) {j : Nat} (hj : j < 4) {s : MSlot} (kp : Kp [pb] w w') (hb : ∀ c, w.heap[pb]? = some (.cells c 34 (0, 0)) → w'.heap[pb]? = some (.cells ((c.setIfInBounds j (.pointer (some ⟨s.b, 0, none⟩))).setIfInBounds (4 + j) (.pointer (some ⟨s.rb, 0, none⟩))) 34 (0, 0))) (hs : MOk w' base pb s) (hnew : ∀ x, s.own x → w.heap.size ≤ x) :
    MPlayAt w' base pb (fun i => if i = j then some s else st i) := by
  obtain ⟨c, h1, h2, h3⟩ := h.row
  have k : Kq (fun x => x = pb) w w' := kp.q.mono (by simp)
  have hold : ∀ i, i < 4 → ∀ t, st i = some t → ∀ x, s.own x → ¬ t.own x := fun i hi t hit x hx hx2 => by have := hnew x hx; have := (h.ok i hi t hit).lt x hx2; omega
  refine ⟨⟨_, hb c h1, by simp [h2], fun i hi => ?_⟩, fun i hi t hit => ?_, fun i i2 hi hi2 hne t t2 hit hit2 x hx => ?_, h.lo, h.pos, h.tab.keep kp (by have := h.lo; have := h.pos; simp; omega)⟩
  · by_cases e : i = j
    · subst e
      simp only [if_true, ptrM, ptrR, Option.map_some]
      refine ⟨?_, ?_⟩
      · rw [Array.getElem?_setIfInBounds, if_neg (by omega), Array.getElem?_setIfInBounds, if_pos rfl, if_pos (by omega)]
      · rw [Array.getElem?_setIfInBounds, if_pos rfl, if_pos (by simp [h2]; omega)]
    · simp only [if_neg e]
      refine ⟨?_, ?_⟩
      · rw [Array.getElem?_setIfInBounds, if_neg (by omega), Array.getElem?_setIfInBounds, if_neg (by omega)]; exact (h3 i hi).1
      · rw [Array.getElem?_setIfInBounds, if_neg (by omega), Array.getElem?_setIfInBounds, if_neg (by omega)]; exact (h3 i hi).2
  · by_cases e : i = j
    · subst e
      simp only [if_true, Option.some.injEq] at hit
      subst hit
      exact hs
    · simp only [if_neg e] at hit
      exact (h.ok i hi t hit).keep k (fun x hx => ((h.ok i hi t hit).lo x hx).2)
  · by_cases e : i = j
    · by_cases e2 : i2 = j
      · omega
      · simp only [if_pos e, Option.some.injEq] at hit
        simp only [if_neg e2] at hit2
        subst hit
        exact hold i2 hi2 t2 hit2 x hx
    · by_cases e2 : i2 = j
      · simp only [if_neg e] at hit
        simp only [if_pos e2, Option.some.injEq] at hit2
        subst hit2
        exact fun hx2 => hold i hi t hit x hx2 hx
      · simp only [if_neg e] at hit
        simp only [if_neg e2] at hit2
        exact h.apart i i2 hi hi2 hne t t2 hit hit2 x hx
end
/-- A step answers true and leaves a play. -/
def MStepped (base pb : Nat) (w : World) (e : Ending) (w' : World) : Prop := e = .returned (.bool true) ∧ ∃ st', MPlayAt w' base pb st' ∧ Kq (fun x => base ≤ x) w w'
end Go.Proofs.YtoghdhjeopcjkaaDoor
