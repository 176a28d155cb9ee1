
/- Plain facts: spans of a list of pages, the order in which pages are taken. Conditions: those of each lemma; no program in sight. -/
import Derived.Test.YtoghdhjeopcjkaaDoorPool2
namespace Go.Proofs.YtoghdhjeopcjkaaDoor

/-- A span put behind a list of spans. -/
def joinSpan (l : Sps) (f c : Int) : Sps :=
  match l.getLast? with
  | some (f', c') => if f' + c' = f then l.dropLast ++ [(f', c' + c)] else l ++ [(f, c)]
  | none => [(f, c)]
theorem joinSpan_nil (f c : Int) : joinSpan [] f c = [(f, c)] := rfl
theorem joinSpan_join (l : Sps) (f' c' f c : Int) (h : f' + c' = f) : joinSpan (l ++ [(f', c')]) f c = l ++ [(f', c' + c)] := by simp [joinSpan, h]
theorem joinSpan_far (l : Sps) (f' c' f c : Int) (h : f' + c' ≠ f) : joinSpan (l ++ [(f', c')]) f c = l ++ [(f', c')] ++ [(f, c)] := by simp [joinSpan, h]
theorem push_eq (l : Sps) (x : Int) : push l x = joinSpan l x 1 := rfl
theorem push_joinSpan (l : Sps) (f c x : Int) (h : f + c = x) : push (joinSpan l f c) x = joinSpan l f (c + 1) := by
  rcases List.eq_nil_or_concat l with rfl | ⟨l, ⟨f', c'⟩, rfl⟩
  · rw [joinSpan_nil, joinSpan_nil]; exact push_join [] f c x h
  · rw [List.concat_eq_append]
    by_cases e : f' + c' = f
    · rw [joinSpan_join _ _ _ _ _ e, joinSpan_join _ _ _ _ _ e, push_join _ _ _ _ (by omega)]
      rw [show c' + c + 1 = c' + (c + 1) by omega]
    · rw [joinSpan_far _ _ _ _ _ e, joinSpan_far _ _ _ _ _ e, push_join _ _ _ _ h]

/-- The spans of pages, in the order of taking. -/
def spansOn (l : Sps) (P : List Nat) : Sps := P.foldl (fun l (x : Nat) => push l (x : Int)) l
def spansOf (P : List Nat) : Sps := spansOn [] P
theorem spansOn_append (l : Sps) (P Q : List Nat) : spansOn l (P ++ Q) = spansOn (spansOn l P) Q := List.foldl_append
theorem spansOn_range (l : Sps) (f c : Nat) : spansOn l (List.range' f (c + 1)) = joinSpan l f ((c + 1 : Nat) : Int) := by
  induction c with
  | zero => simp [spansOn, push_eq, List.range']
  | succ c ih =>
    rw [List.range'_concat, spansOn_append, ih]
    simp only [spansOn, List.foldl_cons, List.foldl_nil]
    rw [push_joinSpan _ _ _ _ (by omega)]
    congr 1
theorem spansOf_range (P : List Nat) (f c : Nat) (h : 1 ≤ c) : spansOf (P ++ List.range' f c) = joinSpan (spansOf P) f c := by
  obtain ⟨c, rfl⟩ : ∃ d, c = d + 1 := ⟨c - 1, by omega⟩
  rw [spansOf, spansOn_append, spansOn_range]; rfl

/-- Each span begins at 0 or above and has a page. -/
def Pos (l : Sps) : Prop := ∀ x ∈ l, 0 ≤ x.1 ∧ 1 ≤ x.2
theorem push_pos {l : Sps} {x : Int} (h : Pos l) (hx : 0 ≤ x) : Pos (push l x) := by
  rcases List.eq_nil_or_concat l with rfl | ⟨l, ⟨f, c⟩, rfl⟩
  · intro y hy; simp [push] at hy; subst hy; simp; exact hx
  · rw [List.concat_eq_append] at *
    have hl := h (f, c) (by simp)
    by_cases e : f + c = x
    · rw [push_join _ _ _ _ e]
      intro y hy
      simp at hy
      rcases hy with hy | hy
      · exact h y (by simp [hy])
      · subst hy; simp at hl ⊢; omega
    · rw [push_far _ _ _ _ e]
      intro y hy
      simp at hy
      rcases hy with hy | hy | hy
      · exact h y (by simp [hy])
      · subst hy; exact hl
      · subst hy; simp; exact hx
theorem spansOn_pos (P : List Nat) (l : Sps) (h : Pos l) : Pos (spansOn l P) := by
  induction P generalizing l with
  | nil => exact h
  | cons x P ih => exact ih _ (push_pos h (by omega))
theorem spansOf_pos (P : List Nat) : Pos (spansOf P) := spansOn_pos P [] (fun x hx => by simp at hx)

/-- The pages of spans. -/
def pagesL (l : Sps) : List Nat := l.flatMap fun x => List.range' x.1.toNat x.2.toNat
theorem pagesL_append (a b : Sps) : pagesL (a ++ b) = pagesL a ++ pagesL b := by simp [pagesL]
theorem pagesL_one (f c : Int) : pagesL [(f, c)] = List.range' f.toNat c.toNat := by simp [pagesL]
theorem pagesL_push {l : Sps} (h : Pos l) (x : Nat) : pagesL (push l (x : Int)) = pagesL l ++ [x] := by
  rcases List.eq_nil_or_concat l with rfl | ⟨l, ⟨f, c⟩, rfl⟩
  · simp [push_nil, pagesL]
  · rw [List.concat_eq_append] at *
    have hl := h (f, c) (by simp)
    simp only at hl
    by_cases e : f + c = (x : Int)
    · rw [push_join _ _ _ _ e, pagesL_append, pagesL_append, pagesL_one, pagesL_one]
      rw [show (c + 1).toNat = c.toNat + 1 by omega, List.range'_concat, List.append_assoc]
      congr 3
      omega
    · rw [push_far _ _ _ _ e, pagesL_append, pagesL_one]
      simp
theorem pagesL_spansOn (P : List Nat) (l : Sps) (h : Pos l) : pagesL (spansOn l P) = pagesL l ++ P := by
  induction P generalizing l with
  | nil => simp [spansOn]
  | cons x P ih =>
    have := ih (push l (x : Int)) (push_pos h (by omega))
    rw [pagesL_push h, List.append_assoc] at this
    exact this
theorem pagesL_spansOf (P : List Nat) : pagesL (spansOf P) = P := by
  rw [spansOf, pagesL_spansOn P [] (fun x hx => by simp at hx)]; rfl
/-- The pages from lo on, k of them, that have p. -/
def pgs (p : Nat → Bool) (lo k : Nat) : List Nat := (List.range' lo k).filter p
theorem pgs_succ (p : Nat → Bool) (lo k : Nat) : pgs p lo (k + 1) = pgs p lo k ++ if p (lo + k) then [lo + k] else [] := by
  simp only [pgs]
  rw [List.range'_concat, List.filter_append]
  simp only [Nat.one_mul, List.filter_cons, List.filter_nil]
theorem runsTo_spansOf (p : Nat → Bool) (lo k : Nat) : runsTo p lo k = spansOf (pgs p lo k) := by
  induction k with
  | zero => rfl
  | succ k ih =>
    rw [pgs_succ]
    simp only [runsTo]
    by_cases h : p (lo + k) = true
    · rw [if_pos h, if_pos h, spansOf, spansOn_append, ← spansOf, ← ih]
      simp [spansOn]
    · rw [if_neg h, if_neg h, List.append_nil, ih]
theorem mem_pgs {p : Nat → Bool} {lo k i : Nat} : i ∈ pgs p lo k ↔ lo ≤ i ∧ i < lo + k ∧ p i = true := by
  simp only [pgs, List.mem_filter, List.mem_range'_1]
  constructor
  · rintro ⟨⟨a, b⟩, c⟩; exact ⟨a, b, c⟩
  · rintro ⟨a, b, c⟩; exact ⟨⟨a, b⟩, c⟩
theorem pgs_nodup (p : Nat → Bool) (lo k : Nat) : (pgs p lo k).Nodup := List.Pairwise.filter _ (List.nodup_range' (step := 1))
theorem pgs_congr {p q : Nat → Bool} {lo k : Nat} (h : ∀ i, lo ≤ i → i < lo + k → p i = q i) : pgs p lo k = pgs q lo k := by
  simp only [pgs]
  apply List.filter_congr
  intro x hx
  rw [List.mem_range'_1] at hx
  exact h x hx.1 hx.2
theorem cnt_pgs (p : Nat → Bool) (lo k : Nat) : cnt p (lo + k) = cnt p lo + (pgs p lo k).length := by
  induction k with
  | zero => simp [pgs]
  | succ k ih =>
    rw [pgs_succ, List.length_append, show lo + (k + 1) = lo + k + 1 by omega]
    simp only [cnt]
    rw [ih]
    split <;> simp <;> omega

/-- Core c's free pages, rising. -/
def areaPg (S : Sh) (on : Nat → Bool) (c : Nat) : List Nat := pgs on (S.lo c) (S.lo (c + 1) - S.lo c)
theorem runs_area (S : Sh) (on : Nat → Bool) (c : Nat) : runs on (S.lo c) (S.lo (c + 1)) = spansOf (areaPg S on c) := runsTo_spansOf _ _ _
theorem mem_area {S : Sh} {on : Nat → Bool} {c i : Nat} : i ∈ areaPg S on c ↔ S.lo c ≤ i ∧ i < S.lo (c + 1) ∧ on i = true := by
  have := Sh.lo_mono (S := S) c (c + 1) (by omega)
  rw [areaPg, mem_pgs]
  constructor
  · rintro ⟨a, b, c⟩; exact ⟨a, by omega, c⟩
  · rintro ⟨a, b, c⟩; exact ⟨a, by omega, c⟩
/-- The free pages of the first k areas from core's on, going round. -/
def doneTo (S : Sh) (on : Nat → Bool) (core : Nat) : Nat → List Nat
  | 0 => []
  | k + 1 => doneTo S on core k ++ areaPg S on ((core + k) % S.cores)
/-- The order in which pages are taken. -/
def order (S : Sh) (on : Nat → Bool) (core : Nat) : List Nat := doneTo S on core S.cores
theorem areas_apart {S : Sh} {on on' : Nat → Bool} {c d i : Nat} (hne : c ≠ d) (h : i ∈ areaPg S on c) : i ∉ areaPg S on' d := by
  intro h2
  rw [mem_area] at h h2
  rcases Nat.lt_or_gt_of_ne hne with hl | hl
  · have := Sh.lo_mono (S := S) (c + 1) d hl; omega
  · have := Sh.lo_mono (S := S) (d + 1) c hl; omega
theorem mod_ne {C a j k : Nat} (hk : k < C) (hj : j < k) : (a + j) % C ≠ (a + k) % C := by
  intro h
  have h1 := Nat.div_add_mod (a + j) C
  have h2 := Nat.div_add_mod (a + k) C
  rw [h] at h1
  have h3 : C * ((a + k) / C) = C * ((a + j) / C) + (k - j) := by omega
  rcases Nat.lt_or_ge ((a + j) / C) ((a + k) / C) with h4 | h4
  · have h5 : C * ((a + j) / C + 1) ≤ C * ((a + k) / C) := Nat.mul_le_mul_left _ h4
    rw [Nat.mul_add] at h5
    omega
  · have h5 : C * ((a + k) / C) ≤ C * ((a + j) / C) := Nat.mul_le_mul_left _ h4
    omega
theorem mem_done {S : Sh} {on : Nat → Bool} {core k i : Nat} : i ∈ doneTo S on core k ↔ ∃ j, j < k ∧ i ∈ areaPg S on ((core + j) % S.cores) := by
  induction k with
  | zero => simp [doneTo]
  | succ k ih =>
    simp only [doneTo, List.mem_append, ih]
    constructor
    · rintro (⟨j, hj, h⟩ | h)
      · exact ⟨j, by omega, h⟩
      · exact ⟨k, by omega, h⟩
    · rintro ⟨j, hj, h⟩
      by_cases e : j = k
      · subst e; exact .inr h
      · exact .inl ⟨j, by omega, h⟩
theorem done_area {S : Sh} {on on' : Nat → Bool} {core k i : Nat} (hk : k < S.cores) (h : i ∈ doneTo S on core k) : i ∉ areaPg S on' ((core + k) % S.cores) := by
  rw [mem_done] at h
  obtain ⟨j, hj, h⟩ := h
  exact areas_apart (mod_ne hk hj) h
theorem done_nodup (S : Sh) (on : Nat → Bool) (core k : Nat) (hk : k ≤ S.cores) : (doneTo S on core k).Nodup := by
  induction k with
  | zero => simp [doneTo]
  | succ k ih =>
    simp only [doneTo]
    rw [List.nodup_append]
    refine ⟨ih (by omega), pgs_nodup _ _ _, fun a ha b hb e => ?_⟩
    subst e
    exact done_area (by omega) ha hb
theorem order_nodup (S : Sh) (on : Nat → Bool) (core : Nat) : (order S on core).Nodup := done_nodup S on core _ (Nat.le_refl _)
/-- Which area a page lies in. -/
theorem area_of {S : Sh} (ok : S.Ok) {i : Nat} (h1 : S.data ≤ i) (h2 : i < S.pages) : ∃ c, c < S.cores ∧ S.lo c ≤ i ∧ i < S.lo (c + 1) := by
  have : ∀ n, n ≤ S.cores → i < S.lo n → ∃ c, c < n ∧ S.lo c ≤ i ∧ i < S.lo (c + 1) := by
    intro n
    induction n with
    | zero => intro _ h; rw [Sh.lo_zero] at h; omega
    | succ n ih =>
      intro hn h
      by_cases hc : i < S.lo n
      · obtain ⟨c, h3, h4⟩ := ih (by omega) hc
        exact ⟨c, by omega, h4⟩
      · exact ⟨n, by omega, by omega, h⟩
  exact this S.cores (Nat.le_refl _) (by rw [Sh.lo_last ok]; exact h2)
theorem mem_order {S : Sh} (ok : S.Ok) {on : Nat → Bool} {core i : Nat} (hc : core < S.cores) : i ∈ order S on core ↔ S.data ≤ i ∧ i < S.pages ∧ on i = true := by
  rw [order, mem_done]
  constructor
  · rintro ⟨j, hj, h⟩
    rw [mem_area] at h
    have h1 := Sh.lo_mono (S := S) 0 ((core + j) % S.cores) (by omega)
    rw [Sh.lo_zero] at h1
    have h2 := Sh.lo_bd ok ((core + j) % S.cores + 1) (Nat.mod_lt _ (by omega))
    exact ⟨by omega, by omega, h.2.2⟩
  · rintro ⟨h1, h2, h3⟩
    obtain ⟨c, hc2, h4, h5⟩ := area_of ok h1 h2
    refine ⟨(c + S.cores - core) % S.cores, Nat.mod_lt _ (by omega), ?_⟩
    have e : (core + (c + S.cores - core) % S.cores) % S.cores = c := by
      rw [Nat.add_mod_mod]
      rw [show core + (c + S.cores - core) = c + S.cores by omega, Nat.add_mod_right, Nat.mod_eq_of_lt hc2]
    rw [e, mem_area]
    exact ⟨h4, h5, h3⟩
theorem length_of_nodup {l m : List Nat} (hl : l.Nodup) (hm : m.Nodup) (h : ∀ i, i ∈ l ↔ i ∈ m) : l.length = m.length :=
  (List.perm_ext_iff_of_nodup hl hm |>.2 h).length_eq
theorem cnt_zero {on : Nat → Bool} {n : Nat} (h : ∀ i, i < n → on i = false) : cnt on n = 0 := by
  induction n with
  | zero => rfl
  | succ n ih => simp only [cnt]; rw [ih fun i hi => h i (by omega), h n (by omega)]; rfl
theorem order_length {S : Sh} (ok : S.Ok) {on : Nat → Bool} {core : Nat} (hc : core < S.cores) (hlow : ∀ i, i < S.data → on i = false) : (order S on core).length = cnt on S.pages := by
  have h1 := cnt_pgs on S.data (S.pages - S.data)
  have := ok.d2
  rw [show S.data + (S.pages - S.data) = S.pages by omega, cnt_zero hlow] at h1
  rw [h1, Nat.zero_add]
  refine length_of_nodup (order_nodup _ _ _) (pgs_nodup _ _ _) fun i => ?_
  rw [mem_order ok hc, mem_pgs]
  constructor
  · rintro ⟨a, b, c⟩; exact ⟨a, by omega, c⟩
  · rintro ⟨a, b, c⟩; exact ⟨a, by omega, c⟩

/-- Marks taken away. -/
def minus (on : Nat → Bool) (P : List Nat) : Nat → Bool := fun i => on i && !P.contains i
def subTo (on : Nat → Bool) (f j : Nat) : Nat → Bool := fun i => on i && !(decide (f ≤ i) && decide (i < f + j))
theorem minus_nil (on : Nat → Bool) : minus on [] = on := by funext i; simp [minus]
theorem subTo_zero (on : Nat → Bool) (f : Nat) : subTo on f 0 = on := by
  funext i; simp only [subTo]; rw [show (decide (f ≤ i) && decide (i < f + 0)) = false by simp]; simp
theorem subTo_succ (on : Nat → Bool) (f j : Nat) : put (subTo on f j) (f + j) false = subTo on f (j + 1) := by
  funext i
  by_cases e : i = f + j
  · subst e; simp [put, subTo]
  · simp only [put, subTo, if_neg e]
    congr 3
    rw [decide_eq_decide]; omega
theorem minus_range (on : Nat → Bool) (P : List Nat) (f c : Nat) : minus on (P ++ List.range' f c) = subTo (minus on P) f c := by
  funext i
  simp only [minus, subTo]
  have e : (P ++ List.range' f c).contains i = (P.contains i || (decide (f ≤ i) && decide (i < f + c))) := by
    rw [Bool.eq_iff_iff]
    simp [List.mem_range'_1]
  rw [e]
  cases on i <;> cases P.contains i <;> simp
theorem minus_on {on : Nat → Bool} {P : List Nat} {i : Nat} (h1 : on i = true) (h2 : i ∉ P) : minus on P i = true := by simp [minus, h1, h2]
theorem minus_low {on : Nat → Bool} {P : List Nat} {i : Nat} (h : on i = false) : minus on P i = false := by simp [minus, h]

theorem take_range (f c k : Nat) : (List.range' f c).take k = List.range' f (min k c) := by
  apply List.ext_getElem?
  intro i
  rw [List.getElem?_take]
  by_cases h : i < k
  · rw [if_pos h]
    by_cases h2 : i < c
    · rw [List.getElem?_range' h2, List.getElem?_range' (by omega)]
    · rw [List.getElem?_eq_none (by simp; omega), List.getElem?_eq_none (by simp; omega)]
  · rw [if_neg h, List.getElem?_eq_none (by simp; omega)]
theorem take_step {A : List Nat} {n f c : Nat} (h : (A.take n).length < n) : (A ++ List.range' f c).take n = A.take n ++ List.range' f (min c (n - (A.take n).length)) := by
  have h1 : A.length < n := by rw [List.length_take] at h; omega
  have h2 : A.take n = A := List.take_of_length_le (by omega)
  rw [h2, List.take_append, h2, take_range, Nat.min_comm]
theorem take_stop {A B : List Nat} {n : Nat} (h : ¬ (A.take n).length < n) : (A ++ B).take n = A.take n := by
  rw [List.length_take] at h
  exact List.take_append_of_le_length (by omega)
theorem split_at (L : Sps) (j : Nat) (h : j < L.length) : L = L.take j ++ [(fr L j, ct L j)] ++ L.drop (j + 1) := by
  have e : (fr L j, ct L j) = L[j] := by simp [fr, ct, h]
  rw [e, List.append_assoc, List.singleton_append, ← List.drop_eq_getElem_cons h, List.take_append_drop]
theorem pagesL_take_succ (L : Sps) (j : Nat) (h : j < L.length) : pagesL (L.take (j + 1)) = pagesL (L.take j) ++ List.range' (fr L j).toNat (ct L j).toNat := by
  have e : L.take (j + 1) = L.take j ++ [(fr L j, ct L j)] := by
    have e2 : (fr L j, ct L j) = L[j] := by simp [fr, ct, h]
    rw [e2, List.take_append_getElem h]
  rw [e, pagesL_append, pagesL_one]
theorem span_fresh {L : Sps} {Q : List Nat} (hL : pagesL L = Q) (hQ : Q.Nodup) {j i : Nat} (hj : j < L.length) (hi : i ∈ List.range' (fr L j).toNat (ct L j).toNat) : i ∈ Q ∧ i ∉ pagesL (L.take j) := by
  have e := split_at L j hj
  rw [e] at hL
  rw [pagesL_append, pagesL_append, pagesL_one] at hL
  rw [← hL] at hQ ⊢
  refine ⟨by simp only [List.mem_append]; exact .inl (.inr hi), fun h => ?_⟩
  have h1 := (List.nodup_append.1 hQ).1
  have h2 := (List.nodup_append.1 h1).2.2
  exact h2 i h i hi rfl
theorem span_pos {P : List Nat} {j : Nat} (h : j < (spansOf P).length) : 0 ≤ fr (spansOf P) j ∧ 1 ≤ ct (spansOf P) j := by
  have h1 := spansOf_pos P ((spansOf P)[j]) (List.getElem_mem h)
  have e1 : fr (spansOf P) j = ((spansOf P)[j]).1 := by simp [fr, h]
  have e2 : ct (spansOf P) j = ((spansOf P)[j]).2 := by simp [ct, h]
  rw [e1, e2]
  exact h1
/-- What the next span of an area holds, when not all is taken yet. -/
theorem take_area {S : Sh} {on : Nat → Bool} {core k n j i : Nat} (hk : k < S.cores) (hj : j < (spansOf (areaPg S on ((core + k) % S.cores))).length)
    (hi : i ∈ List.range' (fr (spansOf (areaPg S on ((core + k) % S.cores))) j).toNat (ct (spansOf (areaPg S on ((core + k) % S.cores))) j).toNat) :
    minus on ((doneTo S on core k ++ pagesL ((spansOf (areaPg S on ((core + k) % S.cores))).take j)).take n) i = true ∧ S.lo ((core + k) % S.cores) ≤ i ∧ i < S.lo ((core + k) % S.cores + 1) := by
  obtain ⟨h1, h2⟩ := span_fresh (pagesL_spansOf _) (pgs_nodup _ _ _) hj hi
  have h3 := mem_area.1 h1
  refine ⟨minus_on h3.2.2 fun h4 => ?_, h3.1, h3.2.1⟩
  have h5 := List.mem_of_mem_take h4
  rw [List.mem_append] at h5
  rcases h5 with h5 | h5
  · exact done_area hk h5 h1
  · exact h2 h5
/-- An area's free pages are as they were while earlier ones are taken from. -/
theorem area_same {S : Sh} {on : Nat → Bool} {core k n : Nat} (hk : k < S.cores) : areaPg S (minus on ((doneTo S on core k).take n)) ((core + k) % S.cores) = areaPg S on ((core + k) % S.cores) := by
  refine pgs_congr fun i h1 h2 => ?_
  cases h : on i with
  | false => exact minus_low h
  | true =>
    refine minus_on h fun h4 => ?_
    have h5 := done_area (on' := on) hk (List.mem_of_mem_take h4)
    exact h5 (mem_area.2 ⟨h1, by omega, h⟩)

theorem done_prefix (S : Sh) (on : Nat → Bool) (core k d : Nat) : ∃ B, doneTo S on core (k + d) = doneTo S on core k ++ B := by
  induction d with
  | zero => exact ⟨[], by simp⟩
  | succ d ih =>
    obtain ⟨B, hB⟩ := ih
    exact ⟨B ++ areaPg S on ((core + (k + d)) % S.cores), by rw [← Nat.add_assoc]; simp only [doneTo]; rw [hB, List.append_assoc]⟩
/-- What has been taken when j spans of an area's list have been gone through. -/
structure Plan (S : Sh) (on : Nat → Bool) (core n k a : Nat) (L : Sps) (PP : Nat → List Nat) : Prop where
  start : PP 0 = (doneTo S on core k).take n
  step : ∀ j, j < L.length → (PP j).length < n → PP (j + 1) = PP j ++ List.range' (fr L j).toNat (min (ct L j).toNat (n - (PP j).length))
  stop : ∀ j, j ≤ L.length → ¬ (PP j).length < n → (order S on core).take n = PP j
  done : PP L.length = (doneTo S on core (k + 1)).take n
  page : ∀ j, j < L.length → ∀ i, i ∈ List.range' (fr L j).toNat (ct L j).toNat → minus on (PP j) i = true ∧ S.lo a ≤ i ∧ i < S.lo (a + 1)
  pos : ∀ j, j < L.length → 0 ≤ fr L j ∧ 1 ≤ ct L j
  len : ∀ j, (PP j).length ≤ n
  mem : ∀ j i, i ∈ PP j → on i = true
theorem spansOn_length (P : List Nat) (l : Sps) : (spansOn l P).length ≤ l.length + P.length := by
  induction P generalizing l with
  | nil => simp [spansOn]
  | cons x P ih =>
    have h1 := ih (push l (x : Int))
    have h2 := push_length l (x : Int)
    simp only [List.length_cons]
    have h3 : spansOn l (x :: P) = spansOn (push l (x : Int)) P := rfl
    rw [h3]; omega
theorem spansOf_length (P : List Nat) : (spansOf P).length ≤ P.length := by have := spansOn_length P []; simp only [List.length_nil, Nat.zero_add] at this; exact this
theorem spansOf_last {P : List Nat} {r : Sps} {f c : Int} (h : spansOf P = r ++ [(f, c)]) : 0 ≤ f ∧ 1 ≤ c ∧ (f + c - 1).toNat ∈ P := by
  have h1 := spansOf_pos P (f, c) (by rw [h]; simp)
  simp only at h1
  refine ⟨h1.1, h1.2, ?_⟩
  rw [← pagesL_spansOf P, h, pagesL_append, pagesL_one, List.mem_append, List.mem_range'_1]
  right; omega
theorem plan (S : Sh) (on : Nat → Bool) (core n k a : Nat) (L : Sps) (hk : k < S.cores) (ha : (core + k) % S.cores = a) (hL : L = spansOf (areaPg S on a)) : ∃ PP, Plan S on core n k a L PP := by
  subst ha; subst hL
  refine ⟨fun j => (doneTo S on core k ++ pagesL ((spansOf (areaPg S on ((core + k) % S.cores))).take j)).take n, ?_, ?_, ?_, ?_, ?_, ?_, ?_, ?_⟩
  · simp [pagesL]
  · intro j hj h
    rw [pagesL_take_succ _ _ hj, ← List.append_assoc, take_step h]
  · intro j hj h
    obtain ⟨B, hB⟩ := done_prefix S on core (k + 1) (S.cores - (k + 1))
    rw [show k + 1 + (S.cores - (k + 1)) = S.cores by omega] at hB
    rw [order, hB]
    simp only [doneTo]
    have key : doneTo S on core k ++ areaPg S on ((core + k) % S.cores) ++ B = (doneTo S on core k ++ pagesL ((spansOf (areaPg S on ((core + k) % S.cores))).take j)) ++ (pagesL ((spansOf (areaPg S on ((core + k) % S.cores))).drop j) ++ B) := by
      rw [List.append_assoc, List.append_assoc, ← List.append_assoc (pagesL _), ← pagesL_append, List.take_append_drop, pagesL_spansOf]
    rw [key]
    exact take_stop h
  · simp only [List.take_length, pagesL_spansOf, doneTo]
  · intro j hj i hi; exact take_area hk hj hi
  · intro j hj; exact span_pos hj
  · intro j; simp only [List.length_take]; omega
  · intro j i hi
    have h1 := List.mem_of_mem_take hi
    rw [List.mem_append] at h1
    rcases h1 with h1 | h1
    · obtain ⟨_, _, h2⟩ := mem_done.1 h1
      exact (mem_area.1 h2).2.2
    · have h3 : i ∈ pagesL (spansOf (areaPg S on ((core + k) % S.cores))) := by
        rw [← List.take_append_drop j (spansOf (areaPg S on ((core + k) % S.cores))), pagesL_append]
        exact List.mem_append_left _ h1
      rw [pagesL_spansOf] at h3
      exact (mem_area.1 h3).2.2
end Go.Proofs.YtoghdhjeopcjkaaDoor
