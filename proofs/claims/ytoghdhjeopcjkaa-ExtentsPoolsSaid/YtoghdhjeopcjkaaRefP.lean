/- Plain facts on lists of pages that Give refuses, and Give's contract on them. Conditions: those of each lemma. -/
import Derived.Test.YtoghdhjeopcjkaaHelp
import Derived.Test.YtoghdhjeopcjkaaFreeP
namespace Go.Proofs.Ytoghdhjeopcjkaa
open Go.RowKit

theorem gi_at {l : List Int} {k : Nat} {x : Int} (h : l[k]? = some x) : gi l k = x := by simp [gi, h]
theorem gi_mid (A B : List Int) (x : Int) : gi (A ++ x :: B) A.length = x := gi_at (by simp)
theorem mem_gi {l : List Int} {x : Int} (h : x ∈ l) : ∃ j, j < l.length ∧ gi l j = x := by
  obtain ⟨j, hj, e⟩ := List.getElem_of_mem h
  exact ⟨j, hj, gi_at (by rw [List.getElem?_eq_getElem hj, e])⟩
theorem gi_mem {l : List Int} {j : Nat} (h : j < l.length) : gi l j ∈ l := by
  have : gi l j = l[j] := by simp [gi, h]
  rw [this]; exact List.getElem_mem h
theorem inTo_iff {S : Sh} {l : List Int} : inTo S l l.length ↔ ∀ x ∈ l, (S.data : Int) ≤ x ∧ x < S.pages := by
  constructor
  · intro h x hx
    obtain ⟨j, hj, rfl⟩ := mem_gi hx
    exact h j hj
  · intro h j hj
    exact h _ (gi_mem hj)
theorem tw_mono {on : Nat → Bool} {l : List Int} {j : Nat} (h : tw on l j = true) (d : Nat) : tw on l (j + d) = true := by
  induction d with
  | zero => exact h
  | succ d ih => rw [show j + (d + 1) = j + d + 1 by omega]; simp only [tw]; rw [ih]; rfl
theorem bk_mono {on : Nat → Bool} {l : List Int} {j i : Nat} (h : bk on l j i = true) (d : Nat) : bk on l (j + d) i = true := by
  induction d with
  | zero => exact h
  | succ d ih =>
    rw [show j + (d + 1) = j + d + 1 by omega]
    simp only [bk]
    split
    · exact ih
    · simp only [put]; split
      · rfl
      · exact ih
theorem tw_of_on {on : Nat → Bool} {l : List Int} {j : Nat} (hj : j < l.length) (h : on (gi l j).toNat = true) : tw on l l.length = true := by
  have h1 : tw on l (j + 1) = true := by simp only [tw]; rw [h]; simp
  have := tw_mono h1 (l.length - (j + 1))
  rwa [show j + 1 + (l.length - (j + 1)) = l.length by omega] at this
theorem tw_of_dup {on : Nat → Bool} {l : List Int} {i j : Nat} (hij : i < j) (hj : j < l.length) (h : gi l i = gi l j) : tw on l l.length = true := by
  cases ho : on (gi l j).toNat with
  | true => exact tw_of_on hj ho
  | false =>
    have h1 : bk on l (i + 1) (gi l j).toNat = true := by
      simp only [bk]
      rw [h, ho]
      simp [put]
    have h2 := bk_mono h1 (j - (i + 1))
    rw [show i + 1 + (j - (i + 1)) = j by omega] at h2
    have h3 : tw on l (j + 1) = true := by simp only [tw]; rw [h2]; simp
    have := tw_mono h3 (l.length - (j + 1))
    rwa [show j + 1 + (l.length - (j + 1)) = l.length by omega] at this
theorem not_inTo_mid {S : Sh} (A B : List Int) {x : Int} (h : ¬ ((S.data : Int) ≤ x ∧ x < S.pages)) : ¬ inTo S (A ++ x :: B) (A ++ x :: B).length := fun h1 => h (inTo_iff.1 h1 x (by simp))
theorem tw_mid_on {on : Nat → Bool} (A B : List Int) {x : Int} (h : on x.toNat = true) : tw on (A ++ x :: B) (A ++ x :: B).length = true :=
  tw_of_on (j := A.length) (by simp) (by rw [gi_mid]; exact h)
theorem tw_mid_dup {on : Nat → Bool} (A B : List Int) {x : Int} (h : x ∈ A ++ B) : tw on (A ++ x :: B) (A ++ x :: B).length = true := by
  rw [List.mem_append] at h
  rcases h with h | h
  · obtain ⟨j, hj, e⟩ := mem_gi h
    refine tw_of_dup (i := j) (j := A.length) hj (by simp) ?_
    rw [gi_mid, ← e]
    simp [gi, List.getElem?_append_left hj]
  · obtain ⟨j, hj, e⟩ := mem_gi h
    refine tw_of_dup (i := A.length) (j := A.length + 1 + j) (by omega) (by simp; omega) ?_
    rw [gi_mid, ← e]
    simp only [gi]
    rw [List.getElem?_append_right (by omega), show A.length + 1 + j - A.length = j + 1 by omega, List.getElem?_cons_succ]
theorem fr_mem {P : List Nat} {j : Nat} (h : j < (spansOf P).length) : (fr (spansOf P) j).toNat ∈ P := by
  have h1 := span_pos h
  have e := split_at (spansOf P) j h
  have h2 : (fr (spansOf P) j).toNat ∈ pagesL (spansOf P) := by
    have e2 := congrArg pagesL e
    rw [pagesL_append, pagesL_append, pagesL_one] at e2
    rw [e2]
    refine List.mem_append_left _ (List.mem_append_right _ ?_)
    rw [List.mem_range'_1]; omega
  rwa [pagesL_spansOf] at h2

section
variable {w : World} {b wb cap : Nat} {on : Nat → Bool} {S : Sh}
theorem pGive_bad (h : PoolAt w b wb cap S on) (v : Value) (l : List Int) (hv : RdI w v l) (hvb : ∀ x, v.ownBlock = some x → x ≠ b ∧ x ≠ wb) (hlen : l.length ≤ 1099511627776) (c : Int)
    (hx : (¬ inTo S l l.length ∧ c = 52) ∨ (inTo S l l.length ∧ tw on l l.length = true ∧ c = 51)) :
    Calls Try.prog 27 #[.pointer (some ⟨b, 0, none⟩), v] w fun e w' => e = .returned (.int .i64 c) ∧ PoolAt w' b wb cap S on ∧ Kp [b, wb] w w' := by
  refine (pGive_any h v l hv hvb hlen).mono ?_
  rintro e w' ⟨hk, ⟨h1, rfl, h2⟩ | ⟨h1, h3, rfl, h2⟩ | ⟨h1, h3, rfl, h2⟩⟩
  · rcases hx with ⟨_, rfl⟩ | ⟨g, _⟩
    · exact ⟨rfl, h2, hk⟩
    · exact absurd g h1
  · rcases hx with ⟨g, _⟩ | ⟨_, _, rfl⟩
    · exact absurd h1 g
    · exact ⟨rfl, h2, hk⟩
  · rcases hx with ⟨g, _⟩ | ⟨_, g, _⟩
    · exact absurd h1 g
    · rw [h3] at g; cases g
theorem pGive_back {held : Nat → Bool} (h : PoolAt w b wb cap S (freeOf S held)) (v : Value) (R : List Nat) (hv : RdI w v (nis R)) (hvb : ∀ x, v.ownBlock = some x → x ≠ b ∧ x ≠ wb) (hlen : R.length ≤ 1099511627776)
    (hn : R.Nodup) (hR : ∀ i ∈ R, S.data ≤ i ∧ i < S.pages ∧ held i = true) :
    Calls Try.prog 27 #[.pointer (some ⟨b, 0, none⟩), v] w fun e w' => e = .returned (.int .i64 0) ∧ PoolAt w' b wb cap S (freeOf S (minus held R)) ∧ Kp [b, wb] w w' := by
  refine (pGive_any h v (nis R) hv hvb (by rw [nis_length]; exact hlen)).mono ?_
  rintro e w' ⟨hk, ⟨h1, rfl, h2⟩ | ⟨h1, h3, rfl, h2⟩ | ⟨h1, h3, rfl, h2⟩⟩
  · exact absurd (inTo_nis fun i hi => ⟨(hR i hi).1, (hR i hi).2.1⟩) h1
  · rw [tw_nis hn fun i hi => freeOf_held (hR i hi).2.2] at h3; cases h3
  · rw [pl_nis, plus_free fun i hi => ⟨(hR i hi).1, (hR i hi).2.1⟩] at h2
    exact ⟨rfl, h2, hk⟩
end
theorem mid_in {S : Sh} {R A B : List Nat} {P : Nat → Prop} (hR : ∀ i ∈ R, S.data ≤ i ∧ i < S.pages ∧ P i) (hAB : R = A ++ B) {x : Nat} (hx : S.data ≤ x ∧ x < S.pages) {y : Int} (hy : y ∈ nis A ++ (x : Int) :: nis B) : (S.data : Int) ≤ y ∧ y < S.pages := by
  have key : ∀ i ∈ R, ((i : Nat) : Int) = y → (S.data : Int) ≤ y ∧ y < S.pages := fun i hi e => by have := hR i hi; omega
  rw [List.mem_append, List.mem_cons] at hy
  rcases hy with hy | hy | hy
  · obtain ⟨i, hi, e⟩ := List.mem_map.1 hy
    exact key i (by rw [hAB]; exact List.mem_append_left _ hi) e
  · omega
  · obtain ⟨i, hi, e⟩ := List.mem_map.1 hy
    exact key i (by rw [hAB]; exact List.mem_append_right _ hi) e
/-- All held pages let go. -/
theorem minus_all {S : Sh} (ok : S.Ok) {held : Nat → Bool} (ha : InA S held) {a n : Nat} (hn : S.pages - S.data ≤ n) : minus held (someTo S held a n (S.pages - S.data)) = fun _ => false := by
  funext i
  simp only [minus]
  cases h : held i with
  | false => rfl
  | true =>
    have h1 := ha i h
    have h2 := some_all ok (a := a) hn h1.1 h1.2 h
    simp [h2]
theorem cnt_freeNone {S : Sh} : cnt (freeOf S fun _ => false) S.pages = S.pages - S.data := by
  have h := cnt_free (S := S) (held := fun _ => false) (fun i h => by cases h)
  rw [cnt_zero'] at h
  omega
end Go.Proofs.Ytoghdhjeopcjkaa
