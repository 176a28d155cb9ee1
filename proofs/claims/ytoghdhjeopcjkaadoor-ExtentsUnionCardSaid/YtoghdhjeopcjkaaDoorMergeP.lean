
/- Plain facts of a merge of two bitmaps, word by word. Conditions: those of each lemma. -/
import Derived.Test.YtoghdhjeopcjkaaDoorBitsW
namespace Go.Proofs.YtoghdhjeopcjkaaDoor
open Go.RowKit

/-- What a merge has marked behind k words. -/
def mg (on oo : Nat → Bool) (n k : Nat) : Nat → Bool := fun i => on i || (decide (i < 64 * k) && decide (i < n) && oo i)
def bothOn (on oo : Nat → Bool) : Nat → Bool := fun i => on i && oo i
def cap2 (n : Nat) (oo : Nat → Bool) : Nat → Bool := fun i => oo i && decide (i < n)
theorem mg_zero (on oo : Nat → Bool) (n : Nat) : mg on oo n 0 = on := by
  funext i; simp [mg]
/-- The least below n that has p; -1, if none has. -/
def IsLeast (p : Nat → Bool) (n : Nat) (v : Int) : Prop := (v = -1 ∧ ∀ i, i < n → p i = false) ∨ ∃ i : Nat, v = i ∧ i < n ∧ p i = true ∧ ∀ j, j < i → p j = false
theorem IsLeast.uniq {p : Nat → Bool} {n : Nat} {u v : Int} (h : IsLeast p n u) (g : IsLeast p n v) : u = v := by
  rcases h with ⟨rfl, h⟩ | ⟨i, rfl, h1, h2, h3⟩
  · rcases g with ⟨rfl, _⟩ | ⟨j, rfl, g1, g2, _⟩
    · rfl
    · rw [h j g1] at g2; cases g2
  · rcases g with ⟨rfl, g⟩ | ⟨j, rfl, g1, g2, g3⟩
    · rw [g i h1] at h2; cases h2
    · by_cases e : i < j
      · rw [g3 i e] at h2; cases h2
      · by_cases e2 : j < i
        · rw [h3 j e2] at g2; cases g2
        · omega
theorem IsLeast.more {p : Nat → Bool} {n m : Nat} {v : Int} (h : IsLeast p n v) (hnm : n ≤ m) (hp : ∀ i, n ≤ i → i < m → p i = false) : IsLeast p m v := by
  rcases h with ⟨rfl, h⟩ | ⟨i, rfl, h1, h2, h3⟩
  · exact .inl ⟨rfl, fun i hi => if e : i < n then h i e else hp i (by omega) hi⟩
  · exact .inr ⟨i, rfl, by omega, h2, h3⟩
theorem IsLeast.less {p : Nat → Bool} {n m : Nat} {v : Int} (h : IsLeast p n v) (hmn : m ≤ n) (hp : ∀ i, m ≤ i → p i = false) : IsLeast p m v := by
  rcases h with ⟨rfl, h⟩ | ⟨i, rfl, h1, h2, h3⟩
  · exact .inl ⟨rfl, fun i hi => h i (by omega)⟩
  · refine .inr ⟨i, rfl, ?_, h2, h3⟩
    by_cases e : i < m
    · exact e
    · rw [hp i (by omega)] at h2; cases h2
theorem IsLeast.bd {p : Nat → Bool} {n : Nat} {v : Int} (h : IsLeast p n v) : -1 ≤ v ∧ v < n ∨ v = -1 := by
  rcases h with ⟨rfl, _⟩ | ⟨i, rfl, h1, _⟩ <;> omega
theorem IsLeast.kept {p : Nat → Bool} {n m : Nat} {v : Int} (h : IsLeast p n v) (hv : 0 ≤ v) (hnm : n ≤ m) : IsLeast p m v := by
  rcases h with ⟨rfl, _⟩ | ⟨i, rfl, h1, h2, h3⟩
  · omega
  · exact .inr ⟨i, rfl, by omega, h2, h3⟩
theorem IsLeast.none {p : Nat → Bool} {n : Nat} {v : Int} (h : IsLeast p n v) (hv : v < 0) : v = -1 ∧ ∀ i, i < n → p i = false := by
  rcases h with h | ⟨i, rfl, _⟩
  · exact h
  · omega

theorem word_congr {x k : Nat} {p q : Nat → Bool} (h : WordOk x k p) (hpq : ∀ i, i / 64 = k → p i = q i) : WordOk x k q := ⟨h.1, fun j hj => by rw [h.2 j hj]; exact hpq _ (by omega)⟩
theorem word_and {x z k : Nat} {p q : Nat → Bool} (hx : WordOk x k p) (hz : WordOk z k q) : WordOk (x &&& z) k (fun i => p i && q i) :=
  ⟨Nat.lt_of_le_of_lt Nat.and_le_left hx.1, fun j hj => by rw [Nat.testBit_and, hx.2 j hj, hz.2 j hj]⟩
theorem word_or {x z k : Nat} {p q : Nat → Bool} (hx : WordOk x k p) (hz : WordOk z k q) : WordOk (x ||| z) k (fun i => p i || q i) := by
  have h2 : (2 : Nat) ^ 64 = 18446744073709551616 := by decide
  refine ⟨?_, fun j hj => by rw [Nat.testBit_or, hx.2 j hj, hz.2 j hj]⟩
  rw [← h2]
  exact Nat.or_lt_two_pow (by rw [h2]; exact hx.1) (by rw [h2]; exact hz.1)
theorem word_mask {y k n : Nat} {p : Nat → Bool} (hy : WordOk y k p) (hk : k + 1 = (n + 63) / 64) (h0 : n % 64 ≠ 0) : WordOk (y &&& (2 ^ (n % 64) - 1)) k (cap2 n p) := by
  refine ⟨Nat.lt_of_le_of_lt Nat.and_le_left hy.1, fun j hj => ?_⟩
  rw [Nat.testBit_and, Nat.testBit_two_pow_sub_one, hy.2 j hj]
  simp only [cap2]
  congr 1
  rw [decide_eq_decide]; omega
theorem word_whole {y k n : Nat} {p : Nat → Bool} (hy : WordOk y k p) (hk : k < (n + 63) / 64) (h0 : k + 1 ≠ (n + 63) / 64 ∨ n % 64 = 0) : WordOk y k (cap2 n p) :=
  word_congr hy fun i hi => by
    simp only [cap2]
    rw [show decide (i < n) = true by simp; omega]; simp
theorem word_new {x z k : Nat} {p q : Nat → Bool} (hx : WordOk x k p) (hz : WordOk z k q) : WordOk (z &&& (18446744073709551615 - x)) k (fun i => q i && !p i) := by
  have h2 : (2 : Nat) ^ 64 = 18446744073709551616 := by decide
  refine ⟨Nat.lt_of_le_of_lt Nat.and_le_left hz.1, fun j hj => ?_⟩
  have hxl := hx.1
  have e3 : 18446744073709551615 - x = 2 ^ 64 - (x + 1) := by rw [h2]; omega
  rw [Nat.testBit_and, hz.2 j hj, e3, Nat.testBit_two_pow_sub_succ (by rw [h2]; exact hxl), hx.2 j hj]
  simp [hj]
theorem word_ne {x k : Nat} {p : Nat → Bool} (h : WordOk x k p) : (x = 0 ↔ ∀ i, i / 64 = k → p i = false) := by
  constructor
  · intro e i hi
    have h2 := h.2 (i % 64) (Nat.mod_lt _ (by omega))
    rw [show 64 * k + i % 64 = i by omega] at h2
    rw [← h2, e]; simp
  · intro e
    apply Nat.eq_of_testBit_eq
    intro i
    rw [Nat.zero_testBit]
    by_cases hi : i < 64
    · rw [h.2 i hi]; exact e _ (by omega)
    · exact Nat.testBit_lt_two_pow (Nat.lt_of_lt_of_le h.1 (by rw [show (18446744073709551616 : Nat) = 2 ^ 64 by decide]; exact Nat.pow_le_pow_right (by omega) (by omega)))
/-- The least of a word. -/
theorem least_word {x k : Nat} {p : Nat → Bool} (h : WordOk x k p) (h0 : x ≠ 0) (hlow : ∀ i, i < 64 * k → p i = false) : IsLeast p (64 * (k + 1)) ((k : Int) * 64 + (Lib.ctz 64 x : Int)) := by
  obtain ⟨h1, h2, h3⟩ := ctz_low x h0 h.1
  refine .inr ⟨64 * k + Lib.ctz 64 x, by omega, by omega, ?_, fun j hj => ?_⟩
  · rw [← h.2 _ h1]; exact h2
  · by_cases e : j < 64 * k
    · exact hlow j e
    · have := h3 (j - 64 * k) (by omega)
      rw [h.2 _ (by omega), show 64 * k + (j - 64 * k) = j by omega] at this
      exact this
theorem cnt_more {p : Nat → Bool} {a b : Nat} (hab : a ≤ b) (h : ∀ i, a ≤ i → i < b → p i = false) : cnt p b = cnt p a := by
  obtain ⟨d, rfl⟩ : ∃ d, b = a + d := ⟨b - a, by omega⟩
  rw [cnt_split]
  have : cnt (fun i => p (a + i)) d = 0 := by
    clear hab
    induction d with
    | zero => rfl
    | succ d ih => simp only [cnt]; rw [ih fun i h1 h2 => h i h1 (by omega)]; have h0 := h (a + d) (by omega) (by omega); simp [h0]
  omega
theorem cnt_both {p q : Nat → Bool} (n : Nat) (h : ∀ i, p i = true → q i = true) : cnt q n = cnt p n + cnt (fun i => q i && !p i) n := by
  induction n with
  | zero => rfl
  | succ n ih =>
    simp only [cnt]
    rw [ih]
    have := h n
    by_cases hp : p n = true
    · have hq := this hp
      simp [hp, hq]; omega
    · by_cases hq : q n = true
      · simp [hp, hq]; omega
      · simp [hp, hq]
/-- The marks that a word of a merge adds. -/
theorem cnt_word {x k n : Nat} {d : Nat → Bool} (h : WordOk x k d) (hd : ∀ i, d i = true → i / 64 = k ∧ i < n) : cnt d n = pop x := by
  have e1 : cnt (fun j => d (64 * k + j)) 64 = pop x := cnt_congr 64 fun j hj => (h.2 j hj).symm
  have hoff : ∀ i, (i / 64 ≠ k ∨ n ≤ i) → d i = false := by
    intro i hi
    cases e : d i with
    | false => rfl
    | true => have := hd i e; omega
  have e2 : cnt d (64 * k + 64) = pop x := by
    rw [cnt_split, e1, cnt_more (a := 0) (by omega) (fun i _ hi => hoff i (by omega))]
    simp [cnt]
  rw [← e2]
  by_cases hn : n ≤ 64 * k + 64
  · exact (cnt_more hn fun i h1 _ => hoff i (.inr h1)).symm
  · exact cnt_more (by omega) fun i h1 _ => hoff i (by omega)

section
variable {w w' : World} {b wb cap T : Nat} {tail : List Value} {n : Nat} {on oo : Nat → Bool}
theorem MarksAt.wordk (h : MarksAt w b wb cap T tail n on) {k : Nat} (hk : k < (n + 63) / 64) : ∃ x : Nat, w.cell? ⟨wb, k, none⟩ = some (.int .u64 x) ∧ WordOk x k on := by
  obtain ⟨c, h3, h4⟩ := h.ws
  obtain ⟨x, h5, h6⟩ := h4 k hk
  exact ⟨x, by rw [blk_cell h3]; exact h5, h6⟩
theorem mg_word (k : Nat) : ∀ i, i / 64 = k → mg on oo n k i = on i := by
  intro i hi
  simp only [mg]
  rw [show decide (i < 64 * k) = false by simp; omega]; simp
theorem mg_off (k : Nat) (h : ∀ i, n ≤ i → on i = false) : ∀ i, n ≤ i → mg on oo n k i = false := by
  intro i hi
  simp only [mg]
  rw [h i hi, show decide (i < n) = false by simp; omega]; simp
/-- A word merged. -/
theorem MarksAt.merge {k : Nat} (h : MarksAt w b wb cap T tail n (mg on oo n k)) (hk : k < (n + 63) / 64) {x z : Nat} (hx : WordOk x k on) (hz : WordOk z k (cap2 n oo)) {m : Int} (hm : m = (cnt (mg on oo n k) n : Int) + (pop (z &&& (18446744073709551615 - x)) : Int)) :
    MarksAt ((w.setCell ⟨b, 1, none⟩ (.int .i64 m)).setCell ⟨wb, k, none⟩ (.int .u64 ((x ||| z : Nat) : Int))) b wb cap T tail n (mg on oo n (k + 1)) := by
  obtain ⟨c, h3, h4⟩ := h.ws
  have hoff : ∀ i, n ≤ i → on i = false := fun i hi => by
    have := h.off i hi
    simp only [mg, Bool.or_eq_false_iff] at this
    exact this.1
  have hsame : ∀ i, i / 64 ≠ k → mg on oo n (k + 1) i = mg on oo n k i := by
    intro i hi
    simp only [mg]
    congr 3
    rw [decide_eq_decide]; omega
  have hin : ∀ i, i / 64 = k → mg on oo n (k + 1) i = (on i || cap2 n oo i) := by
    intro i hi
    simp only [mg, cap2]
    rw [show decide (i < 64 * (k + 1)) = true by simp; omega]
    simp [Bool.and_comm]
  have hcnt : cnt (mg on oo n (k + 1)) n = cnt (mg on oo n k) n + pop (z &&& (18446744073709551615 - x)) := by
    rw [cnt_both n (p := mg on oo n k) (q := mg on oo n (k + 1)) (fun i hi => by
      simp only [mg, Bool.or_eq_true, Bool.and_eq_true, decide_eq_true_eq] at hi ⊢
      rcases hi with hi | hi
      · exact .inl hi
      · exact .inr ⟨⟨by omega, hi.1.2⟩, hi.2⟩)]
    congr 1
    refine cnt_word (k := k) (word_congr (word_new hx hz) fun i hi => ?_) fun i hi => ?_
    · rw [hin i hi, mg_word k i hi]
      cases on i <;> simp
    · simp only [Bool.and_eq_true, Bool.not_eq_true'] at hi
      constructor
      · by_cases e : i / 64 = k
        · exact e
        · rw [hsame i e, hi.2] at hi; cases hi.1
      · by_cases e : i < n
        · exact e
        · rw [mg_off (oo := oo) (k + 1) hoff i (by omega)] at hi; cases hi.1
  refine ⟨?_, ⟨c.setIfInBounds k (.int .u64 ((x ||| z : Nat) : Int)), ?_, ?_⟩, h.ne, h.nle, mg_off _ hoff⟩
  · rw [blk_set_ne (blk_set h.hd _) h.ne, hm, hcnt]; simp
  · rw [blk_set (blk_set_ne h3 (Ne.symm h.ne) _)]
  · intro k2 hk2
    by_cases e : k2 = k
    · subst e
      obtain ⟨x2, h5, _⟩ := h4 _ hk2
      have hlt := (Array.getElem?_eq_some_iff.1 h5).1
      exact ⟨x ||| z, by simp [hlt], word_congr (word_or hx hz) fun i hi => (hin i hi).symm⟩
    · obtain ⟨x2, h5, h6⟩ := h4 k2 hk2
      exact ⟨x2, by rw [Array.getElem?_setIfInBounds, if_neg (by omega)]; exact h5, word_congr h6 fun i hi => (hsame i (by omega)).symm⟩
end
end Go.Proofs.YtoghdhjeopcjkaaDoor
