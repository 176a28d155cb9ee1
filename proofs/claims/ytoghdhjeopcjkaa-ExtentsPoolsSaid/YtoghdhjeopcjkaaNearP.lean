/- Plain facts: which pages a take takes of each area, in which order. Conditions: those of each lemma. -/
import Derived.Test.YtoghdhjeopcjkaaRefP
namespace Go.Proofs.Ytoghdhjeopcjkaa

/-- How many pages of the list lie from F on below H. -/
def cin (F H : Nat) (P : List Nat) : Nat := (P.filter fun x => decide (F ≤ x) && decide (x < H)).length
theorem cin_append (F H : Nat) (P Q : List Nat) : cin F H (P ++ Q) = cin F H P + cin F H Q := by simp [cin]
theorem cin_le (F H : Nat) (P : List Nat) : cin F H P ≤ P.length := List.length_filter_le _ _
theorem cin_none {F H : Nat} {P : List Nat} (h : ∀ x ∈ P, ¬ (F ≤ x ∧ x < H)) : cin F H P = 0 := by
  unfold cin
  rw [List.filter_eq_nil_iff.2 (fun x hx => by have := h x hx; simp; omega)]
  rfl
theorem cin_all {F H : Nat} {P : List Nat} (h : ∀ x ∈ P, F ≤ x ∧ x < H) : cin F H P = P.length := by
  unfold cin
  rw [List.filter_eq_self.2 (fun x hx => by have := h x hx; simp; omega)]
theorem cin_range (F H f t : Nat) : cin F H (List.range' f (t + 1)) = cin F H (List.range' f t) + if F ≤ f + t ∧ f + t < H then 1 else 0 := by
  rw [List.range'_concat, cin_append]
  congr 1
  by_cases h : F ≤ f + t ∧ f + t < H
  · rw [if_pos h]; simp [cin, h]
  · rw [if_neg h]; simp [cin]; omega

section
variable (S : Sh) (on : Nat → Bool) (c n : Nat)
/-- What is left to take when the k-th area is come to, and what is taken of it. -/
def lft (k : Nat) : Nat := n - (doneTo S on c k).length
def mine (k : Nat) : Nat := min (lft S on c n k) (areaPg S on ((c + k) % S.cores)).length
theorem done_succ (k : Nat) : doneTo S on c (k + 1) = doneTo S on c k ++ areaPg S on ((c + k) % S.cores) := rfl
theorem lft_succ (k : Nat) : lft S on c n (k + 1) + mine S on c n k = lft S on c n k := by
  simp only [lft, mine, done_succ, List.length_append]; omega
theorem lft_zero : lft S on c n 0 = n := by simp [lft, doneTo]
theorem lft_last (h : n ≤ (order S on c).length) : lft S on c n S.cores = 0 := by
  simp only [lft]; unfold order at h; omega
/-- The taken pages, parted at the k-th area. -/
theorem take_parts {k : Nat} (hk : k < S.cores) : ∃ B, order S on c = doneTo S on c k ++ areaPg S on ((c + k) % S.cores) ++ B ∧
    (order S on c).take n = (doneTo S on c k).take n ++ (areaPg S on ((c + k) % S.cores)).take (lft S on c n k) ++ B.take (lft S on c n (k + 1)) := by
  obtain ⟨B, hB⟩ := done_prefix S on c (k + 1) (S.cores - (k + 1))
  rw [show k + 1 + (S.cores - (k + 1)) = S.cores by omega] at hB
  refine ⟨B, hB, ?_⟩
  unfold order
  rw [hB, List.take_append, done_succ, List.take_append]
  simp only [lft, done_succ, List.length_append]
theorem mine_in (ok : S.Ok) (hc : c < S.cores) {k : Nat} (hk : k < S.cores) : cin (S.lo ((c + k) % S.cores)) (S.lo ((c + k) % S.cores + 1)) ((order S on c).take n) = mine S on c n k := by
  obtain ⟨B, h1, h2⟩ := take_parts S on c n hk
  have hnd := order_nodup S on c
  rw [h2, cin_append, cin_append]
  have e1 : cin (S.lo ((c + k) % S.cores)) (S.lo ((c + k) % S.cores + 1)) ((doneTo S on c k).take n) = 0 := by
    refine cin_none fun x hx hin => ?_
    have hx2 := List.mem_of_mem_take hx
    have hon : on x = true := (mem_order ok hc).1 (by rw [h1]; exact List.mem_append_left _ (List.mem_append_left _ hx2)) |>.2.2
    exact done_area (on' := on) hk hx2 (mem_area.2 ⟨hin.1, hin.2, hon⟩)
  have e2 : cin (S.lo ((c + k) % S.cores)) (S.lo ((c + k) % S.cores + 1)) ((areaPg S on ((c + k) % S.cores)).take (lft S on c n k)) = mine S on c n k := by
    rw [cin_all fun x hx => by have := mem_area.1 (List.mem_of_mem_take hx); exact ⟨this.1, this.2.1⟩, List.length_take]
    rfl
  have e3 : cin (S.lo ((c + k) % S.cores)) (S.lo ((c + k) % S.cores + 1)) (B.take (lft S on c n (k + 1))) = 0 := by
    refine cin_none fun x hx hin => ?_
    have hx2 := List.mem_of_mem_take hx
    have hon : on x = true := (mem_order ok hc).1 (by rw [h1]; exact List.mem_append_right _ hx2) |>.2.2
    rw [h1] at hnd
    exact (List.nodup_append.1 hnd).2.2 x (List.mem_append_right _ (mem_area.2 ⟨hin.1, hin.2, hon⟩)) x hx2 rfl
  rw [e1, e2, e3]; omega
theorem mine_page {k j : Nat} (hk : k < S.cores) (hj : j < mine S on c n k) : ((order S on c).take n)[n - lft S on c n k + j]? = (areaPg S on ((c + k) % S.cores))[j]? := by
  obtain ⟨B, h1, h2⟩ := take_parts S on c n hk
  have hl : j < lft S on c n k ∧ j < (areaPg S on ((c + k) % S.cores)).length := by simp only [mine] at hj; omega
  have hd : (doneTo S on c k).length < n := by simp only [lft] at hl; omega
  have e : n - lft S on c n k = (doneTo S on c k).length := by simp only [lft]; omega
  rw [h2, e, List.append_assoc, List.take_of_length_le (by omega), List.getElem?_append_right (by omega), Nat.add_sub_cancel_left, List.getElem?_append_left (by rw [List.length_take]; omega), List.getElem?_take, if_pos hl.1]
theorem filter_drop {A : List Nat} (h : A.Nodup) (m : Nat) : A.filter (fun x => !(A.take m).contains x) = A.drop m := by
  induction A generalizing m with
  | nil => simp
  | cons x A ih =>
    rw [List.nodup_cons] at h
    cases m with
    | zero => simp
    | succ m =>
      rw [List.take_succ_cons, List.drop_succ_cons, List.filter_cons_of_neg (by simp), ← ih h.2 m]
      refine List.filter_congr fun y hy => ?_
      have : y ≠ x := fun e => h.1 (e ▸ hy)
      simp [this]
theorem mine_rest {k : Nat} (hk : k < S.cores) : areaPg S (minus on ((order S on c).take n)) ((c + k) % S.cores) = (areaPg S on ((c + k) % S.cores)).drop (mine S on c n k) := by
  obtain ⟨B, h1, h2⟩ := take_parts S on c n hk
  have hnd := order_nodup S on c
  have e : areaPg S (minus on ((order S on c).take n)) ((c + k) % S.cores) = (areaPg S on ((c + k) % S.cores)).filter fun x => !((order S on c).take n).contains x := by
    simp only [areaPg, pgs, List.filter_filter]
    refine List.filter_congr fun y hy => ?_
    simp only [minus]
    rw [Bool.and_comm]
  rw [e]
  have hAn : (areaPg S on ((c + k) % S.cores)).Nodup := pgs_nodup _ _ _
  have e2 : (areaPg S on ((c + k) % S.cores)).take (lft S on c n k) = (areaPg S on ((c + k) % S.cores)).take (mine S on c n k) := by
    simp only [mine]
    rcases Nat.le_total (lft S on c n k) (areaPg S on ((c + k) % S.cores)).length with h | h
    · rw [Nat.min_eq_left h]
    · rw [Nat.min_eq_right h, List.take_of_length_le h, List.take_length]
  rw [← filter_drop hAn]
  refine List.filter_congr fun y hy => ?_
  congr 1
  rw [h2, e2]
  have hy2 := mem_area.1 hy
  have m1 : y ∉ (doneTo S on c k).take n := fun hx => done_area (on' := on) hk (List.mem_of_mem_take hx) hy
  have m3 : y ∉ B.take (lft S on c n (k + 1)) := fun hx => by
    rw [h1] at hnd
    exact (List.nodup_append.1 hnd).2.2 y (List.mem_append_right _ hy) y (List.mem_of_mem_take hx) rfl
  rw [Bool.eq_iff_iff]
  simp [m1, m3]
end
theorem area_rising (S : Sh) (on : Nat → Bool) (k : Nat) : (areaPg S on k).Pairwise (· < ·) := pgs_rising _ _ _
theorem spansOn_head (P : List Nat) (l : Sps) (f c : Int) (h : 1 ≤ c) : ∃ c' r, spansOn ((f, c) :: l) P = (f, c') :: r ∧ 1 ≤ c' := by
  induction P generalizing l f c with
  | nil => exact ⟨c, l, rfl, h⟩
  | cons x P ih =>
    show ∃ c' r, spansOn (push ((f, c) :: l) (x : Int)) P = (f, c') :: r ∧ 1 ≤ c'
    rcases List.eq_nil_or_concat l with rfl | ⟨r, ⟨f', c''⟩, rfl⟩
    · by_cases e : f + c = (x : Int)
      · rw [show push [(f, c)] (x : Int) = [(f, c + 1)] from push_join [] f c x e]
        exact ih [] f (c + 1) (by omega)
      · rw [show push [(f, c)] (x : Int) = (f, c) :: [((x : Int), 1)] from push_far [] f c x e]
        exact ih _ f c h
    · rw [List.concat_eq_append]
      by_cases e : f' + c'' = (x : Int)
      · rw [show push ((f, c) :: (r ++ [(f', c'')])) (x : Int) = (f, c) :: (r ++ [(f', c'' + 1)]) from push_join ((f, c) :: r) f' c'' x e]
        exact ih _ f c h
      · rw [show push ((f, c) :: (r ++ [(f', c'')])) (x : Int) = (f, c) :: (r ++ [(f', c'')] ++ [((x : Int), 1)]) from push_far ((f, c) :: r) f' c'' x e]
        exact ih _ f c h
theorem fr_first (x : Nat) (P : List Nat) : fr (spansOf (x :: P)) 0 = x ∧ 0 < (spansOf (x :: P)).length := by
  have h1 : spansOf (x :: P) = spansOn [((x : Int), 1)] P := rfl
  obtain ⟨c', r, e, _⟩ := spansOn_head P [] x 1 (by omega)
  rw [h1, e]
  simp [fr]
/-- The i-th page of spans. -/
theorem page_at {P : List Nat} {k i : Nat} (hk : k < (spansOf P).length) (h1 : (pagesL ((spansOf P).take k)).length ≤ i) (h2 : (i : Int) < (pagesL ((spansOf P).take k)).length + ct (spansOf P) k) :
    ∃ h : i < P.length, (P[i] : Int) = fr (spansOf P) k + ((i : Int) - (pagesL ((spansOf P).take k)).length) := by
  have hp := span_pos hk
  have e := split_at (spansOf P) k hk
  have e2 := congrArg pagesL e
  rw [pagesL_append, pagesL_append, pagesL_one, pagesL_spansOf] at e2
  generalize pagesL ((spansOf P).take k) = A at h1 h2 e2 ⊢
  generalize pagesL ((spansOf P).drop (k + 1)) = T at e2
  generalize fr (spansOf P) k = f at hp e2 ⊢
  generalize ct (spansOf P) k = c at hp h2 e2
  have e3 : P[i]? = some (f.toNat + (i - A.length)) := by
    clear e
    rw [e2, List.append_assoc, List.getElem?_append_right h1, List.getElem?_append_left (by rw [List.length_range']; omega), List.getElem?_range' (by omega)]
    simp
  obtain ⟨hi, e4⟩ := List.getElem?_eq_some_iff.1 e3
  exact ⟨hi, by rw [e4]; omega⟩
end Go.Proofs.Ytoghdhjeopcjkaa
