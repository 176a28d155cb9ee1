
/- Plain facts and small contracts of ExtentsUnion. Conditions: those of each lemma. -/
import Derived.Test.YtoghdhjeopcjkaaDoorMerge
import Derived.Test.YtoghdhjeopcjkaaDoorListed
import Derived.Test.YtoghdhjeopcjkaaDoorHoles
namespace Go.Proofs.YtoghdhjeopcjkaaDoor
open Go.RowKit Go.Deep

/-- What a mark set answers, and what it leaves. -/
def setC (n : Nat) (on : Nat → Bool) (q : Int) : Bool := decide (0 ≤ q) && decide (q < n) && !on q.toNat
def setP (n : Nat) (on : Nat → Bool) (q : Int) : Nat → Bool := if 0 ≤ q ∧ q < n then put on q.toNat true else on
theorem bmSet_all {w : World} {b wb cap n : Nat} {on : Nat → Bool} (h : BmAt w b wb cap n on) (q : Int) :
    Calls Tryd.prog 9 #[.pointer (some ⟨b, 0, none⟩), .int .i64 q] w fun e w' => e = .returned (.bool (setC n on q)) ∧ BmAt w' b wb cap n (setP n on q) ∧ Kp [b, wb] w w' := by
  by_cases hq : 0 ≤ q ∧ q < n
  · obtain ⟨j, rfl⟩ := Int.eq_ofNat_of_zero_le hq.1
    have e1 : setC n on (j : Int) = !on j := by simp only [setC]; rw [show decide ((0 : Int) ≤ (j : Int)) = true by simp, show decide ((j : Int) < (n : Int)) = true by simp; omega]; simp
    have e2 : setP n on (j : Int) = put on j true := by simp only [setP]; rw [if_pos hq]; simp
    rw [e1, e2]
    exact bmSet_put h _ j rfl (by omega) _ rfl
  · have e1 : setC n on q = false := by
      simp only [setC]
      by_cases h0 : 0 ≤ q
      · rw [show decide (q < (n : Int)) = false by simp; omega]; simp
      · rw [show decide (0 ≤ q) = false by simpa using h0]; simp
    have e2 : setP n on q = on := if_neg hq
    rw [e1, e2]
    refine (bmSet_no h q (by omega)).mono ?_
    rintro e w1 ⟨rfl, k, rfl⟩
    exact ⟨rfl, h.drewN k, (Kp.refl _ _).drewN k⟩
/-- The marks of the first i numbers of a list. -/
def onL (n : Nat) (q : Nat → Int) : Nat → Nat → Bool
  | 0 => fun _ => false
  | i + 1 => setP n (onL n q i) (q i)
theorem onL_off (n : Nat) (q : Nat → Int) (i : Nat) : ∀ j, n ≤ j → onL n q i j = false := by
  induction i with
  | zero => intro _ _; rfl
  | succ i ih =>
    intro j hj
    simp only [onL, setP]
    split
    · rename_i h; rw [put_other _ (by omega)]; exact ih j hj
    · exact ih j hj
/-- A row of marks in a block. -/
def RowN (w : World) (hb n : Nat) (f : Nat → Bool) : Prop := ∃ c : Array Value, w.heap[hb]? = some (.cells c 4 (0, 0)) ∧ ∀ i, i < n → c[i]? = some (.bool (f i))
theorem RowN.keep {S : List Nat} {w w' : World} {hb n : Nat} {f : Nat → Bool} (h : RowN w hb n f) (k : Kp S w w') (hS : hb ∉ S) : RowN w' hb n f := by
  obtain ⟨c, h1, h2⟩ := h; exact ⟨c, k.blk h1 hS, h2⟩
theorem RowN.cell {w : World} {hb n : Nat} {f : Nat → Bool} (h : RowN w hb n f) {i : Nat} (hi : i < n) : w.cell? ⟨hb, i, none⟩ = some (.bool (f i)) := by
  obtain ⟨c, h1, h2⟩ := h; rw [blk_cell h1]; exact h2 i hi
theorem RowN.f {w : World} {hb n : Nat} {f : Nat → Bool} (h : RowN w hb n f) (i : Nat) : w.frozen? ⟨hb, i, none⟩ = false := by obtain ⟨c, h1, _⟩ := h; exact blk_free h1 i
theorem RowN.lt {w : World} {hb n : Nat} {f : Nat → Bool} (h : RowN w hb n f) : hb < w.heap.size := by obtain ⟨c, h1, _⟩ := h; exact blk_lt h1
theorem RowN.set {w : World} {hb n : Nat} {f : Nat → Bool} (h : RowN w hb n f) (i : Nat) (v : Bool) : RowN (w.setCell ⟨hb, i, none⟩ (.bool v)) hb n (put f i v) := by
  obtain ⟨c, h1, h2⟩ := h
  refine ⟨_, blk_set h1 _, fun j hj => ?_⟩
  by_cases e : j = i
  · subst e
    have hlt := (Array.getElem?_eq_some_iff.1 (h2 j hj)).1
    simp [hlt, put]
  · rw [Array.getElem?_setIfInBounds, if_neg (by omega), put_other _ e]; exact h2 j hj
theorem RowN.congr {w : World} {hb n : Nat} {f g : Nat → Bool} (h : RowN w hb n f) (hfg : ∀ i, i < n → f i = g i) : RowN w hb n g := by
  obtain ⟨c, h1, h2⟩ := h; exact ⟨c, h1, fun i hi => by rw [← hfg i hi]; exact h2 i hi⟩
/-- The first i numbers joined. -/
def joinTo (f g : Nat → Bool) (i : Nat) : Nat → Bool := fun j => f j || (decide (j < i) && g j)
theorem joinTo_zero (f g : Nat → Bool) : joinTo f g 0 = f := by funext j; simp [joinTo]
theorem joinTo_succ (f g : Nat → Bool) (i : Nat) : put (joinTo f g i) i (f i || g i) = joinTo f g (i + 1) := by
  funext j
  by_cases e : j = i
  · subst e; rw [put_same]; simp [joinTo]
  · rw [put_other _ e]; simp only [joinTo]; congr 2; rw [decide_eq_decide]; omega
theorem joinTo_at (f g : Nat → Bool) (i : Nat) : joinTo f g i i = f i := by simp [joinTo]
theorem isLeast_next {f g : Nat → Bool} {i : Nat} {u : Int} (h : IsLeast (bothOn f g) i u) : IsLeast (bothOn f g) (i + 1) (if (f i && g i && decide (u < 0)) = true then (i : Int) else u) := by
  by_cases h0 : u < 0
  · obtain ⟨_, h2⟩ := h.none h0
    by_cases hb : (f i && g i) = true
    · rw [if_pos (by rw [hb, show decide (u < 0) = true by simpa using h0]; rfl)]
      exact .inr ⟨i, rfl, by omega, hb, h2⟩
    · rw [if_neg (by simp at hb ⊢; intro h1 h3; rw [hb h1] at h3; cases h3)]
      refine h.more (by omega) fun j h3 h4 => ?_
      obtain rfl : j = i := by omega
      exact Bool.eq_false_iff.2 hb
  · rw [if_neg (by simp; intros; omega)]
    exact h.kept (by omega) (by omega)
end Go.Proofs.YtoghdhjeopcjkaaDoor
