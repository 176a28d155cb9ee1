
/- Plain facts: what is free is what isn't held; what give and take do to it. Conditions: those of each lemma. -/
import Derived.Test.YtoghdhjeopcjkaaDoorBookP
import Derived.Test.YtoghdhjeopcjkaaDoorGive
import Derived.Test.YtoghdhjeopcjkaaDoorSome
namespace Go.Proofs.YtoghdhjeopcjkaaDoor

/-- The pages of the data area that aren't held. -/
def freeOf (S : Sh) (held : Nat → Bool) : Nat → Bool := fun i => (decide (S.data ≤ i) && decide (i < S.pages)) && !held i
/-- Only pages of the data area are held. -/
def InA (S : Sh) (held : Nat → Bool) : Prop := ∀ i, held i = true → S.data ≤ i ∧ i < S.pages
theorem freeOf_true {S : Sh} {held : Nat → Bool} {i : Nat} : freeOf S held i = true ↔ S.data ≤ i ∧ i < S.pages ∧ held i = false := by
  simp [freeOf, and_assoc]
theorem freeOf_low {S : Sh} {held : Nat → Bool} {i : Nat} (h : i < S.data) : freeOf S held i = false := by
  simp [freeOf]; omega
theorem freeOf_held {S : Sh} {held : Nat → Bool} {i : Nat} (h : held i = true) : freeOf S held i = false := by simp [freeOf, h]
theorem cnt_free {S : Sh} {held : Nat → Bool} (h : InA S held) : cnt (freeOf S held) S.pages + cnt held S.pages = S.pages - S.data := by
  have : ∀ n, n ≤ S.pages → cnt (freeOf S held) n + cnt held n = n - S.data := by
    intro n
    induction n with
    | zero => intro _; simp [cnt]
    | succ n ih =>
      intro hn
      have := ih (by omega)
      simp only [cnt]
      by_cases hh : held n = true
      · have := h n hh
        rw [freeOf_held hh, hh]; simp; omega
      · have hh2 : held n = false := by simpa using hh
        by_cases hl : n < S.data
        · rw [freeOf_low hl, hh2]; simp; omega
        · have : freeOf S held n = true := freeOf_true.2 ⟨by omega, by omega, hh2⟩
          rw [this, hh2]; simp; omega
  exact this _ (Nat.le_refl _)
theorem minus_free (S : Sh) (held : Nat → Bool) (P : List Nat) : minus (freeOf S held) P = freeOf S (plus held P) := by
  funext i
  simp only [minus, freeOf, plus]
  cases held i <;> cases P.contains i <;> simp
theorem InA.plus {S : Sh} {held : Nat → Bool} {P : List Nat} (h : InA S held) (hP : ∀ i ∈ P, S.data ≤ i ∧ i < S.pages) : InA S (plus held P) := by
  intro i hi
  simp only [Go.Proofs.YtoghdhjeopcjkaaDoor.plus, Bool.or_eq_true] at hi
  rcases hi with hi | hi
  · exact h i hi
  · exact hP i (by simpa using hi)
theorem InA.minus {S : Sh} {held : Nat → Bool} {P : List Nat} (h : InA S held) : InA S (minus held P) := by
  intro i hi
  simp only [Go.Proofs.YtoghdhjeopcjkaaDoor.minus, Bool.and_eq_true] at hi
  exact h i hi.1
theorem cnt_plus {held : Nat → Bool} {P : List Nat} {n : Nat} (hn : P.Nodup) (h : ∀ i ∈ P, i < n ∧ held i = false) : cnt (plus held P) n = cnt held n + P.length := by
  induction P generalizing held with
  | nil => rw [plus_nil]; rfl
  | cons x P ih =>
    have hx := h x (by simp)
    rw [List.nodup_cons] at hn
    have e : plus held (x :: P) = plus (put held x true) P := by
      funext i
      simp only [plus, put]
      by_cases e : i = x
      · subst e; simp
      · simp [e]
    rw [e, ih hn.2, cnt_put_on hx.1 hx.2, List.length_cons]
    · omega
    · intro i hi
      have hne : i ≠ x := fun e => hn.1 (e ▸ hi)
      rw [put_other _ hne]
      exact h i (by simp [hi])
theorem gi_nis {R : List Nat} {k : Nat} (h : k < R.length) : (gi (nis R) k) = (R[k] : Int) := by simp [gi, nis, h]
theorem inTo_nis {S : Sh} {R : List Nat} (h : ∀ i ∈ R, S.data ≤ i ∧ i < S.pages) : inTo S (nis R) (nis R).length := by
  intro j hj
  rw [nis_length] at hj
  rw [gi_nis hj]
  have := h _ (List.getElem_mem hj)
  omega
theorem bk_nis {on : Nat → Bool} {R : List Nat} (hoff : ∀ i ∈ R, on i = false) : ∀ k, k ≤ R.length → ∀ i, bk on (nis R) k i = true → i ∈ R.take k := by
  intro k
  induction k with
  | zero => intro _ i h; simp [bk] at h
  | succ k ih =>
    intro hk i h
    simp only [bk] at h
    rw [gi_nis (show k < R.length by omega)] at h
    simp only [Int.toNat_natCast] at h
    rw [hoff _ (List.getElem_mem _)] at h
    simp only [Bool.false_eq_true, if_false, put] at h
    rw [List.take_succ_eq_append_getElem (by omega), List.mem_append]
    split at h
    · rename_i e; right; simp [e]
    · exact .inl (ih (by omega) i h)
theorem tw_nis {on : Nat → Bool} {R : List Nat} (hn : R.Nodup) (hoff : ∀ i ∈ R, on i = false) : tw on (nis R) (nis R).length = false := by
  have : ∀ k, k ≤ R.length → tw on (nis R) k = false := by
    intro k
    induction k with
    | zero => intro _; rfl
    | succ k ih =>
      intro hk
      simp only [tw]
      rw [ih (by omega), gi_nis (show k < R.length by omega)]
      simp only [Int.toNat_natCast, Bool.false_or]
      rw [hoff _ (List.getElem_mem _)]
      cases hb : bk on (nis R) k R[k] with
      | false => rfl
      | true =>
        have h1 := bk_nis hoff k (by omega) _ hb
        have h2 : R = R.take k ++ R.drop k := (List.take_append_drop k R).symm
        have h3 : R[k] ∈ R.drop k := by rw [List.drop_eq_getElem_cons (show k < R.length by omega)]; exact List.mem_cons.2 (.inl rfl)
        rw [h2] at hn
        exact absurd rfl ((List.nodup_append.1 hn).2.2 _ h1 _ h3)
  rw [nis_length]
  exact this _ (Nat.le_refl _)
theorem plus_snoc (on : Nat → Bool) (A : List Nat) (p : Nat) : plus on (A ++ [p]) = put (plus on A) p true := by
  funext i
  by_cases e : i = p
  · subst e; simp [put, plus]
  · simp [put, plus, e]
theorem pl_nis (on : Nat → Bool) (R : List Nat) : pl on (nis R) (nis R).length = plus on R := by
  have : ∀ k, k ≤ R.length → pl on (nis R) k = plus on (R.take k) := by
    intro k
    induction k with
    | zero => intro _; simp [pl, plus_nil]
    | succ k ih =>
      intro hk
      simp only [pl]
      rw [ih (by omega), gi_nis (show k < R.length by omega), List.take_succ_eq_append_getElem (by omega)]
      simp only [Int.toNat_natCast]
      exact (plus_snoc _ _ _).symm
  rw [nis_length, this _ (Nat.le_refl _), List.take_length]
theorem plus_free {S : Sh} {held : Nat → Bool} {R : List Nat} (h : ∀ i ∈ R, S.data ≤ i ∧ i < S.pages) : plus (freeOf S held) R = freeOf S (minus held R) := by
  funext i
  simp only [plus, freeOf, minus]
  by_cases hi : i ∈ R
  · have := h i hi
    simp [hi, this]
  · simp [hi]
/-- What Take takes of a pool, told to the book. -/
theorem take_told {S : Sh} (ok : S.Ok) {held : Nat → Bool} {core n : Nat} (hc : core < S.cores) :
    ((order S (freeOf S held) core).take n).Nodup ∧ ∀ i ∈ (order S (freeOf S held) core).take n, S.data ≤ i ∧ i < S.pages ∧ held i = false := by
  refine ⟨(order_nodup S _ core).sublist (List.take_sublist _ _), fun i hi => ?_⟩
  have h1 := (mem_order ok hc).1 (List.mem_of_mem_take hi)
  have h2 := freeOf_true.1 h1.2.2
  exact ⟨h2.1, h2.2.1, h2.2.2⟩
theorem span_all {S : Sh} {P : List Nat} (hP : ∀ i ∈ P, S.data ≤ i ∧ i < S.pages) : ∀ j, j < (spansOf P).length → 1 ≤ ct (spansOf P) j ∧ (S.data : Int) ≤ fr (spansOf P) j ∧ fr (spansOf P) j + ct (spansOf P) j ≤ S.pages := by
  intro j hj
  have h1 := span_pos hj
  have h2 : ∀ i, i ∈ List.range' (fr (spansOf P) j).toNat (ct (spansOf P) j).toNat → i ∈ P := fun i hi => by
    have e := split_at (spansOf P) j hj
    rw [← pagesL_spansOf P, e, pagesL_append, pagesL_append, pagesL_one]
    simp only [List.mem_append]
    exact .inl (.inr hi)
  have h3 := hP _ (h2 (fr (spansOf P) j).toNat (by rw [List.mem_range'_1]; omega))
  have h4 := hP _ (h2 ((fr (spansOf P) j).toNat + (ct (spansOf P) j).toNat - 1) (by rw [List.mem_range'_1]; omega))
  omega
theorem span_new {held : Nat → Bool} {P : List Nat} (hn : P.Nodup) (hP : ∀ i ∈ P, held i = false) : ∀ j, j < (spansOf P).length → ∀ i, i ∈ List.range' (fr (spansOf P) j).toNat (ct (spansOf P) j).toNat → plus held (pagesL ((spansOf P).take j)) i = false := by
  intro j hj i hi
  obtain ⟨h1, h2⟩ := span_fresh (pagesL_spansOf P) hn hj hi
  simp [plus, hP i h1, h2]
end Go.Proofs.YtoghdhjeopcjkaaDoor
