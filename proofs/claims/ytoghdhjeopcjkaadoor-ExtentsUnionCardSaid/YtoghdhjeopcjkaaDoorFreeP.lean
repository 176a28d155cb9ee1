
/- Plain facts: a pool made of another's free pages has the same free pages. Conditions: those of each lemma. -/
import Derived.Test.YtoghdhjeopcjkaaDoorPlayP
namespace Go.Proofs.YtoghdhjeopcjkaaDoor

/-- The free pages, rising. -/
def freeL (S : Sh) (held : Nat → Bool) : List Nat := pgs (freeOf S held) S.data (S.pages - S.data)
theorem runs_free (S : Sh) (held : Nat → Bool) : runs (freeOf S held) S.data S.pages = spansOf (freeL S held) := runsTo_spansOf _ _ _
theorem mem_freeL {S : Sh} {held : Nat → Bool} {i : Nat} : i ∈ freeL S held ↔ freeOf S held i = true := by
  rw [freeL, mem_pgs]
  constructor
  · rintro ⟨_, _, h⟩; exact h
  · intro h; have := freeOf_true.1 h; exact ⟨by omega, by omega, h⟩
theorem freeL_length {S : Sh} {held : Nat → Bool} : (freeL S held).length = cnt (freeOf S held) S.pages ∨ S.pages < S.data := by
  by_cases h : S.pages < S.data
  · exact .inr h
  · left
    have h1 := cnt_pgs (freeOf S held) S.data (S.pages - S.data)
    rw [show S.data + (S.pages - S.data) = S.pages by omega, cnt_zero (fun i hi => freeOf_low hi), Nat.zero_add] at h1
    exact h1.symm
theorem onOf_pages {l : Sps} (_ : Pos l) (k : Nat) (hk : k ≤ l.length) : onOf l k = fun i => (pagesL (l.take k)).contains i := by
  induction k with
  | zero => funext i; simp [onOf, pagesL]
  | succ k ih =>
    simp only [onOf]
    rw [ih (by omega), pagesL_take_succ l k (by omega)]
    funext i
    simp only [addTo]
    rw [Bool.eq_iff_iff]
    simp [List.mem_range'_1]
theorem onOf_spansOf (P : List Nat) : onOf (spansOf P) (spansOf P).length = fun i => P.contains i := by
  rw [onOf_pages (spansOf_pos P) _ (Nat.le_refl _), List.take_length, pagesL_spansOf]
theorem onOf_free (S : Sh) (held : Nat → Bool) : onOf (spansOf (freeL S held)) (spansOf (freeL S held)).length = freeOf S held := by
  rw [onOf_spansOf]
  funext i
  rw [Bool.eq_iff_iff, List.contains_iff_mem, mem_freeL]
theorem pgs_rising (p : Nat → Bool) (lo k : Nat) : (pgs p lo k).Pairwise (· < ·) := List.Pairwise.filter _ (List.pairwise_lt_range' (step := 1))
theorem good_spans {S : Sh} {P : List Nat} (hP : ∀ i ∈ P, S.data ≤ i ∧ i < S.pages) (hr : P.Pairwise (· < ·)) : goodTo S (spansOf P) (spansOf P).length := by
  intro j hj
  have h1 := span_all hP j hj
  have h0 := span_pos hj
  refine ⟨h1.1, ?_, by omega, by omega⟩
  cases j with
  | zero => exact h1.2.1
  | succ j =>
    simp only [nx]
    have h2 := span_all hP j (by omega)
    have h3 := pagesL_spansOf P
    rw [split_at (spansOf P) (j + 1) hj, pagesL_append, pagesL_append, pagesL_one, pagesL_take_succ _ _ (by omega)] at h3
    rw [← h3] at hr
    have h4 := (List.pairwise_append.1 (List.pairwise_append.1 hr).1).2.2 ((fr (spansOf P) j).toNat + (ct (spansOf P) j).toNat - 1)
      (List.mem_append_right _ (by rw [List.mem_range'_1]; omega)) (fr (spansOf P) (j + 1)).toNat (by rw [List.mem_range'_1]; omega)
    omega
theorem good_free (S : Sh) (held : Nat → Bool) : goodTo S (spansOf (freeL S held)) (spansOf (freeL S held)).length :=
  good_spans (fun i hi => by have := freeOf_true.1 (mem_freeL.1 hi); omega) (pgs_rising _ _ _)
theorem plus_minus {on : Nat → Bool} {P : List Nat} (h : ∀ i ∈ P, on i = true) : plus (minus on P) P = on := by
  funext i
  simp only [plus, minus]
  by_cases hi : i ∈ P
  · simp [hi, h i hi]
  · simp [hi]
end Go.Proofs.YtoghdhjeopcjkaaDoor
