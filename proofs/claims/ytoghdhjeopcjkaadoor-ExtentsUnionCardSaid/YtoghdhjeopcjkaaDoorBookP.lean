
/- Plain facts on runs: where a list of spans may be cut, what is held. Conditions: those of each lemma. -/
import Derived.Test.YtoghdhjeopcjkaaDoorTakeP
import Derived.Test.YtoghdhjeopcjkaaDoorNew
namespace Go.Proofs.YtoghdhjeopcjkaaDoor

/-- Spans of pages that begin behind a list's end, and don't join it, stand behind that list. -/
theorem spansOn_prefix (l m : Sps) (hm : m ≠ []) (B : List Nat) : spansOn (l ++ m) B = l ++ spansOn m B := by
  induction B generalizing m with
  | nil => rfl
  | cons x B ih =>
    have e : push (l ++ m) (x : Int) = l ++ push m (x : Int) := by
      rcases List.eq_nil_or_concat m with rfl | ⟨m, ⟨f, c⟩, rfl⟩
      · exact absurd rfl hm
      · rw [List.concat_eq_append, ← List.append_assoc]
        by_cases h : f + c = (x : Int)
        · rw [push_join _ _ _ _ h, push_join _ _ _ _ h, List.append_assoc]
        · rw [push_far _ _ _ _ h, push_far _ _ _ _ h]; simp
    have hne : push m (x : Int) ≠ [] := by
      rcases List.eq_nil_or_concat m with rfl | ⟨m, ⟨f, c⟩, rfl⟩
      · simp [push]
      · rw [List.concat_eq_append]
        by_cases h : f + c = (x : Int)
        · rw [push_join _ _ _ _ h]; simp
        · rw [push_far _ _ _ _ h]; simp
    have h1 : spansOn (l ++ m) (x :: B) = spansOn (push (l ++ m) (x : Int)) B := rfl
    have h2 : spansOn m (x :: B) = spansOn (push m (x : Int)) B := rfl
    rw [h1, h2, e, ih _ hne]
/-- The last span of pages that all lie below k ends at most at k. -/
theorem last_le {A : List Nat} {k : Nat} (h : ∀ i ∈ A, i < k) {r : Sps} {f c : Int} (e : spansOf A = r ++ [(f, c)]) : f + c ≤ k := by
  have h1 := spansOf_last e
  have h2 := h _ h1.2.2
  omega
theorem spansOf_append_far (A B : List Nat) (k : Nat) (hA : ∀ i ∈ A, i < k) (hB : ∀ i ∈ B, k < i) : spansOf (A ++ B) = spansOf A ++ spansOf B := by
  rw [spansOf, spansOn_append, ← spansOf]
  cases B with
  | nil => simp [spansOn, spansOf]
  | cons x B =>
    have hx := hB x (by simp)
    have h1 : spansOn (spansOf A) (x :: B) = spansOn (push (spansOf A) (x : Int)) B := rfl
    have h2 : spansOf (x :: B) = spansOn [((x : Int), 1)] B := rfl
    rw [h1, h2]
    have h3 : push (spansOf A) (x : Int) = spansOf A ++ [((x : Int), 1)] := by
      rcases List.eq_nil_or_concat (spansOf A) with e | ⟨r, ⟨f, c⟩, e⟩
      · rw [e]; rfl
      · rw [List.concat_eq_append] at e
        have := last_le hA e
        rw [e, push_far _ _ _ _ (by omega)]
    rw [h3, spansOn_prefix _ _ (by simp)]
theorem pgs_append (p : Nat → Bool) (lo k d : Nat) : pgs p lo (k + d) = pgs p lo k ++ pgs p (lo + k) d := by
  induction d with
  | zero => simp [pgs]
  | succ d ih =>
    rw [show k + (d + 1) = k + d + 1 by omega, pgs_succ, pgs_succ, ih, List.append_assoc, show lo + (k + d) = lo + k + d by omega]
theorem runsTo_length_spans (p : Nat → Bool) (lo k : Nat) : runsTo p lo k = spansOf (pgs p lo k) := runsTo_spansOf p lo k
/-- Behind a page that hasn't p the spans so far stand as they are. -/
theorem runsTo_cut (p : Nat → Bool) (lo k d : Nat) (h : p (lo + k) = false) : runsTo p lo (k + d) = runsTo p lo k ++ runsTo p (lo + k) d := by
  rw [runsTo_spansOf, runsTo_spansOf, runsTo_spansOf, pgs_append]
  refine spansOf_append_far _ _ (lo + k) (fun i hi => (mem_pgs.1 hi).2.1) (fun i hi => ?_)
  have h1 := mem_pgs.1 hi
  by_cases e : i = lo + k
  · subst e; rw [h] at h1; exact absurd h1.2.2 (by simp)
  · omega
theorem pgs_all (p : Nat → Bool) (lo k : Nat) (h : ∀ i, lo ≤ i → i < lo + k → p i = true) : pgs p lo k = List.range' lo k := by
  simp only [pgs]
  rw [List.filter_eq_self]
  intro x hx
  rw [List.mem_range'_1] at hx
  exact h x hx.1 hx.2
/-- One whole run is one span. -/
theorem runsTo_all (p : Nat → Bool) (lo k : Nat) (hk : 1 ≤ k) (h : ∀ i, lo ≤ i → i < lo + k → p i = true) : runsTo p lo k = [((lo : Int), (k : Int))] := by
  rw [runsTo_spansOf, pgs_all p lo k h]
  have := spansOf_range [] lo k hk
  simpa [joinSpan_nil, spansOf, spansOn] using this
theorem runsTo_skip (p : Nat → Bool) (lo k : Nat) (h : p lo = false) : runsTo p lo (k + 1) = runsTo p (lo + 1) k := by
  rw [runsTo_spansOf, runsTo_spansOf]
  congr 1
  rw [show k + 1 = 1 + k by omega, pgs_append]
  have : pgs p lo 1 = [] := by rw [pgs_succ]; simp [pgs, h]
  rw [this]; rfl
/-- A run from lo on, then the rest. -/
theorem runsTo_run (p : Nat → Bool) (lo n d : Nat) (hn : 1 ≤ n) (h : ∀ i, lo ≤ i → i < lo + n → p i = true) (hd : d = 0 ∨ p (lo + n) = false) : runsTo p lo (n + d) = ((lo : Int), (n : Int)) :: runsTo p (lo + n) d := by
  rcases hd with rfl | hd
  · simpa [runsTo] using runsTo_all p lo n hn h
  · rw [runsTo_cut p lo n d hd, runsTo_all p lo n hn h]; rfl
/-- The spans of taken pages: two neighbours don't touch. -/
theorem push_apart {l : Sps} {x : Int} (hp : Pos l) (h : ∀ i, i + 1 < l.length → fr l i + ct l i ≠ fr l (i + 1)) : ∀ i, i + 1 < (push l x).length → fr (push l x) i + ct (push l x) i ≠ fr (push l x) (i + 1) := by
  rcases List.eq_nil_or_concat l with rfl | ⟨l, ⟨f, c⟩, rfl⟩
  · intro i hi; simp [push] at hi
  · rw [List.concat_eq_append] at *
    by_cases e : f + c = x
    · rw [push_join _ _ _ _ e]
      intro i hi
      have hi2 : i + 1 < (l ++ [(f, c)]).length := by simpa using hi
      have h1 := h i hi2
      have e1 : fr (l ++ [(f, c + 1)]) (i + 1) = fr (l ++ [(f, c)]) (i + 1) := by
        simp only [fr]
        by_cases h3 : i + 1 < l.length
        · rw [List.getElem?_append_left h3, List.getElem?_append_left h3]
        · have h4 : i + 1 = l.length := by simp at hi; omega
          rw [h4]; simp
      have hil : i < l.length := by simp at hi; omega
      have e2 : fr (l ++ [(f, c + 1)]) i = fr (l ++ [(f, c)]) i := by simp only [fr]; rw [List.getElem?_append_left hil, List.getElem?_append_left hil]
      have e3 : ct (l ++ [(f, c + 1)]) i = ct (l ++ [(f, c)]) i := by simp only [ct]; rw [List.getElem?_append_left hil, List.getElem?_append_left hil]
      rw [e1, e2, e3]; exact h1
    · rw [push_far _ _ _ _ e]
      intro i hi
      by_cases h3 : i + 1 < (l ++ [(f, c)]).length
      · have h1 := h i h3
        simp only [fr, ct]
        rw [List.getElem?_append_left h3, List.getElem?_append_left (show i < (l ++ [(f, c)]).length by omega)]
        exact h1
      · have h4 : i + 1 = (l ++ [(f, c)]).length := by simp at hi h3 ⊢; omega
        have h5 : i = l.length := by simp at h4; omega
        subst h5
        simp only [fr, ct]
        rw [List.getElem?_append_left (by simp)]
        simp
        exact e
theorem spansOf_apart (P : List Nat) : ∀ i, i + 1 < (spansOf P).length → fr (spansOf P) i + ct (spansOf P) i ≠ fr (spansOf P) (i + 1) := by
  have : ∀ (P : List Nat) (l : Sps), Pos l → (∀ i, i + 1 < l.length → fr l i + ct l i ≠ fr l (i + 1)) → ∀ i, i + 1 < (spansOn l P).length → fr (spansOn l P) i + ct (spansOn l P) i ≠ fr (spansOn l P) (i + 1) := by
    intro P
    induction P with
    | nil => intro l _ h; exact h
    | cons x P ih => intro l hp h; exact ih _ (push_pos hp (by omega)) (push_apart hp h)
  exact this P [] (fun x hx => by simp at hx) (fun i hi => by simp at hi)

/-- Held pages besides; held pages that are let go. -/
def plus (held : Nat → Bool) (P : List Nat) : Nat → Bool := fun i => held i || P.contains i
theorem plus_nil (held : Nat → Bool) : plus held [] = held := by funext i; simp [plus]
theorem plus_range (held : Nat → Bool) (P : List Nat) (f c : Nat) : plus held (P ++ List.range' f c) = addTo (plus held P) f c := by
  funext i
  simp only [plus, addTo]
  have e : (P ++ List.range' f c).contains i = (P.contains i || (decide (f ≤ i) && decide (i < f + c))) := by
    rw [Bool.eq_iff_iff]
    simp [List.mem_range'_1]
  rw [e, Bool.or_assoc]

/-- The k-th page going round the data area from the at-th on. -/
def cand (S : Sh) (a k : Nat) : Nat := S.data + (a + k) % (S.pages - S.data)
/-- Held pages, going round: up to n of the first k. -/
def someTo (S : Sh) (held : Nat → Bool) (a n : Nat) : Nat → List Nat
  | 0 => []
  | k + 1 => if (someTo S held a n k).length < n && held (cand S a k) then someTo S held a n k ++ [cand S a k] else someTo S held a n k
theorem cand_inj {S : Sh} {a j k : Nat} (hk : k < S.pages - S.data) (hj : j < k) : cand S a j ≠ cand S a k := by
  intro h
  exact mod_ne (a := a) hk hj (by unfold cand at h; omega)
theorem mem_some {S : Sh} {held : Nat → Bool} {a n k i : Nat} (h : i ∈ someTo S held a n k) : (∃ j, j < k ∧ i = cand S a j) ∧ held i = true := by
  induction k with
  | zero => simp [someTo] at h
  | succ k ih =>
    simp only [someTo] at h
    split at h
    · rename_i hc
      rw [List.mem_append] at h
      rcases h with h | h
      · obtain ⟨⟨j, hj, e⟩, h2⟩ := ih h
        exact ⟨⟨j, by omega, e⟩, h2⟩
      · simp at h
        subst h
        simp at hc
        exact ⟨⟨k, by omega, rfl⟩, hc.2⟩
    · obtain ⟨⟨j, hj, e⟩, h2⟩ := ih h
      exact ⟨⟨j, by omega, e⟩, h2⟩
theorem some_new {S : Sh} {held : Nat → Bool} {a n k : Nat} (hk : k < S.pages - S.data) : cand S a k ∉ someTo S held a n k := by
  intro h
  obtain ⟨⟨j, hj, e⟩, _⟩ := mem_some h
  exact cand_inj hk hj e.symm
theorem some_nodup {S : Sh} {held : Nat → Bool} {a n k : Nat} (hk : k ≤ S.pages - S.data) : (someTo S held a n k).Nodup := by
  induction k with
  | zero => simp [someTo]
  | succ k ih =>
    simp only [someTo]
    split
    · rw [List.nodup_append]
      refine ⟨ih (by omega), by simp, fun x hx y hy e => ?_⟩
      simp at hy
      subst hy; subst e
      exact some_new (by omega) hx
    · exact ih (by omega)
theorem some_length (S : Sh) (held : Nat → Bool) (a n k : Nat) : (someTo S held a n k).length ≤ n := by
  induction k with
  | zero => simp [someTo]
  | succ k ih =>
    simp only [someTo]
    split
    · rename_i hc; simp at hc; simp; omega
    · exact ih
theorem some_length2 (S : Sh) (held : Nat → Bool) (a n k : Nat) : (someTo S held a n k).length ≤ k := by
  induction k with
  | zero => simp [someTo]
  | succ k ih =>
    simp only [someTo]
    split
    · simp; omega
    · omega
theorem some_stop {S : Sh} {held : Nat → Bool} {a n k : Nat} (h : ¬ (someTo S held a n k).length < n) (d : Nat) : someTo S held a n (k + d) = someTo S held a n k := by
  induction d with
  | zero => rfl
  | succ d ih =>
    rw [show k + (d + 1) = k + d + 1 by omega]
    simp only [someTo]
    rw [ih]
    simp [h]
theorem cand_in {S : Sh} (ok : S.Ok) (a k : Nat) : S.data ≤ cand S a k ∧ cand S a k < S.pages := by
  have := ok.d2
  have := Nat.mod_lt (a + k) (show S.pages - S.data > 0 by omega)
  unfold cand; omega
/-- With room for all, every held page of the data area is there. -/
theorem some_all {S : Sh} (ok : S.Ok) {held : Nat → Bool} {a n i : Nat} (hn : S.pages - S.data ≤ n) (h1 : S.data ≤ i) (h2 : i < S.pages) (h3 : held i = true) : i ∈ someTo S held a n (S.pages - S.data) := by
  have key : ∀ k, k ≤ S.pages - S.data → ∀ j, j < k → held (cand S a j) = true → cand S a j ∈ someTo S held a n k := by
    intro k
    induction k with
    | zero => intro _ j hj; omega
    | succ k ih =>
      intro hk j hj hh
      simp only [someTo]
      have hl := some_length2 S held a n k
      by_cases e : j = k
      · subst e; simp [hh, show (someTo S held a n j).length < n by omega]
      · have := ih (by omega) j (by omega) hh
        split
        · exact List.mem_append_left _ this
        · exact this
  have hD : 0 < S.pages - S.data := by have := ok.d2; omega
  have e : cand S a ((i - S.data + (S.pages - S.data) - a % (S.pages - S.data)) % (S.pages - S.data)) = i := by
    have hi : i - S.data < S.pages - S.data := by omega
    unfold cand
    generalize S.pages - S.data = D at hi hD ⊢
    have h4 : a + (i - S.data + D - a % D) = (i - S.data) + D * (a / D + 1) := by
      have h5 := Nat.div_add_mod a D
      have h6 := Nat.mod_lt a hD
      rw [Nat.mul_add]; omega
    rw [Nat.add_mod_mod, h4, Nat.add_mul_mod_self_left, Nat.mod_eq_of_lt hi]
    omega
  rw [← e]
  exact key _ (Nat.le_refl _) _ (Nat.mod_lt _ hD) (by rw [e]; exact h3)
end Go.Proofs.YtoghdhjeopcjkaaDoor
