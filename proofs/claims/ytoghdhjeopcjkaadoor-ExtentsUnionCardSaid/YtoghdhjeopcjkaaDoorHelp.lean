
/- The walks of the laws' small helpers: copySpans, sameSpans, count, copyInts, sameInts. Conditions: the slices are read as told. -/
import Derived.Test.YtoghdhjeopcjkaaDoorPlayed
import Derived.Test.YtoghdhjeopcjkaaDoorAreas
namespace Go.Proofs.YtoghdhjeopcjkaaDoor
open Go.RowKit

theorem flat_src {w : World} {v : Value} {l : Sps} (h : RdS w v l) (hnil : l = [] → ∃ g c, v = .slice (some ⟨g, 0, none⟩) 0 c ∨ v = .slice none 0 0) : Src w v l.length (flat l) := by
  obtain ⟨a, c, rfl, h | ⟨g, rfl, h⟩⟩ := h
  · subst h
    obtain ⟨g, c2, h | h⟩ := hnil rfl
    · rw [h]; exact ⟨_, _, rfl, .inr ⟨g, 0, rfl, fun j u hj => by simp [flat] at hj⟩⟩
    · rw [h]; exact ⟨_, _, rfl, .inl ⟨rfl, rfl, rfl, rfl⟩⟩
  · refine ⟨_, _, rfl, .inr ⟨g, 0, rfl, fun j u hj => ?_⟩⟩
    have hl := flat_length l
    have hjl : j < l.length * 2 := by
      rw [← hl]; exact (List.getElem?_eq_some_iff.1 hj).1
    have h2 := h (j / 2) (by omega)
    have h3 := flat_get l (j / 2) (by omega)
    rcases Nat.mod_two_eq_zero_or_one j with e | e
    · have e2 : j = j / 2 * 2 := by omega
      rw [← e2] at h2 h3
      rw [Nat.zero_add, h2.1, ← h3.1, hj]
    · have e2 : j = j / 2 * 2 + 1 := by omega
      rw [← e2] at h2 h3
      rw [Nat.zero_add, h2.2, ← h3.2, hj]
theorem Own.src {w : World} {base : Nat} {v : Value} {l : Sps} (h : Own w base v l) : Src w v l.length (flat l) := by
  refine flat_src h.rd fun hl => ?_
  subst hl
  rcases h.cases with ⟨h1, _⟩ | ⟨g, c, h1, _⟩
  · exact ⟨0, 0, .inr h1⟩
  · exact ⟨g, c, .inl h1⟩
theorem flat_one (l : Sps) : ∀ u ∈ flat l, u.oneCell' = true := by
  intro u hu
  simp only [flat, List.mem_flatMap] at hu
  obtain ⟨x, _, hx⟩ := hu
  simp at hx
  rcases hx with rfl | rfl <;> rfl

set_option maxHeartbeats 1000000 in
theorem sameSpans_eq {w : World} {v1 v2 : Value} {l : Sps} (h1 : RdS w v1 l) (h2 : RdS w v2 l) (hlen : l.length ≤ 1099511627776) :
    Calls Tryd.prog 26 #[v1, v2] w fun e w' => e = .returned (.bool true) ∧ ∃ k, w' = w.drewN k := by
  obtain ⟨a1, c1, rfl, h1⟩ := h1
  obtain ⟨a2, c2, rfl, h2⟩ := h2
  have sn := span_neq
  generalize hn : l.length = n at *
  have H1 := hide h1
  have H2 := hide h2
  have HN := hide hn
  clear h1 h2 hn
  go_enter Tryd.func26, Tryd.ntmps26
  go_wp2
  go_loopw [5] (fun i wr => ∃ k : Nat, k ≤ n ∧ i = .int .i64 k ∧ ∃ m, wr = w.drewN m) (fun i _ => n - (intOf i).toNat)
  case atStart => exact ⟨0, by omega, rfl, 0, rfl⟩
  case round =>
    obtain ⟨k, hk, rfl, m, rfl⟩ := hrel
    by_cases hlt : k < n
    · rcases H1.out with e | ⟨g1, rfl, g⟩
      · have := HN.out; subst e; simp at this; omega
      rcases H2.out with e | ⟨g2, rfl, g'⟩
      · have := HN.out; subst e; simp at this; omega
      obtain ⟨q1, q2⟩ := g k hlt
      obtain ⟨q3, q4⟩ := g' k hlt
      generalize fr l k = f at q1 q3
      generalize ct l k = c at q2 q4
      clear g g'
      go_wp2
      go_quiet (fail)
      go_wp2
      go_roundw
      case rel => exact ⟨k + 1, by omega, by go_num, _, rfl⟩
      case measure => simp [intOf]; omega
    · go_wp2
      go_ret
      exact ⟨rfl, _, rfl⟩

/-- The pages of spans, counted. -/
def sumTo (l : Sps) : Nat → Int
  | 0 => 0
  | k + 1 => sumTo l k + ct l k
theorem sumTo_pages {l : Sps} (h : Pos l) (k : Nat) (hk : k ≤ l.length) : sumTo l k = ((pagesL (l.take k)).length : Int) := by
  induction k with
  | zero => simp [sumTo, pagesL]
  | succ k ih =>
    rw [pagesL_take_succ l k (by omega), List.length_append, List.length_range']
    simp only [sumTo]
    rw [ih (by omega)]
    have h1 := h l[k] (List.getElem_mem _)
    have e : ct l k = l[k].2 := by simp [ct, show k < l.length by omega]
    omega
theorem sumTo_spansOf (P : List Nat) : sumTo (spansOf P) (spansOf P).length = P.length := by
  rw [sumTo_pages (spansOf_pos P) _ (Nat.le_refl _), List.take_length, pagesL_spansOf]
theorem ints_one (l : List Int) : ∀ u ∈ ints l, u.oneCell' = true := by
  intro u hu
  simp only [ints, List.mem_map] at hu
  obtain ⟨x, _, rfl⟩ := hu
  rfl
theorem OwnI.src {w : World} {base : Nat} {v : Value} {l : List Int} (h : OwnI w base v l) : Src w v l.length (ints l) := by
  rcases h.cases with ⟨rfl, rfl⟩ | ⟨g, c, rfl, _⟩
  · exact ⟨_, _, rfl, .inl ⟨rfl, rfl, rfl, rfl⟩⟩
  · refine ⟨_, _, rfl, .inr ⟨g, 0, rfl, fun j u hj => ?_⟩⟩
    have hjl : j < l.length := by rw [← ints_length l]; exact (List.getElem?_eq_some_iff.1 hj).1
    rw [ints_get l j hjl] at hj
    rw [Nat.zero_add, h.cell rfl j hjl, ← hj]
theorem nis_range_succ (R : List Nat) (f t : Nat) : nis (R ++ List.range' f (t + 1)) = nis (R ++ List.range' f t) ++ [((f + t : Nat) : Int)] := by
  rw [List.range'_concat, ← List.append_assoc, nis_append]
  simp [nis]
theorem Tryd.info_bool : (Tryd.prog.info? 4).map (fun i => (i.zero, i.size, i.bytes)) = some (some (.bool false), 1, 1) := by kernel_rfl
theorem onOf_whole (S : Sh) : onOf [((S.data : Int), (S.pages : Int) - S.data)] 1 = freeOf S (fun _ => false) := by
  funext i
  simp only [onOf, addTo, fr, ct, freeOf]
  by_cases h1 : S.data ≤ i
  · by_cases h2 : i < S.pages
    · simp [h1, h2]; omega
    · simp [h1, h2]; omega
  · simp [h1]
/-- NewPool of all pages of a data area. -/
theorem newPool_whole {w : World} {S : Sh} (ok : S.Ok) {v : Value} {base : Nat} (hv : Own w base v [((S.data : Int), (S.pages : Int) - S.data)]) :
    Calls Tryd.prog 15 #[.agg #[.int .i64 S.pages, .int .i64 S.inodes, .int .i64 S.cores, .int .i64 S.data], v] w fun e w' => ∃ pb wb cap, e = .returned (.tuple #[.pointer (some ⟨pb, 0, none⟩), .int .i64 0]) ∧ w.heap.size ≤ pb ∧ w.heap.size ≤ wb ∧
      PoolAt w' pb wb cap S (freeOf S (fun _ => false)) ∧ Kp [] w w' := by
  refine (newPool_any S ok v _ w hv.rd (by simp)).mono ?_
  rintro e w' ⟨hk, ⟨_, pb, wb, cap, rfl, h1, h2, h3⟩ | ⟨hno, _⟩⟩
  · rw [show [((S.data : Int), (S.pages : Int) - S.data)].length = 1 from rfl, onOf_whole] at h3
    exact ⟨pb, wb, cap, rfl, h1, h2, h3, hk⟩
  · refine absurd (fun j hj => ?_) hno
    simp at hj
    subst hj
    have := ok.d2
    refine ⟨by simp [ct]; omega, by simp [nx, fr], by simp [fr]; omega, by simp [ct, fr]⟩
theorem book_new {w : World} {bb hb : Nat} {S : Sh} (hd : w.heap[bb]? = some (.cells #[.int .i64 S.pages, .int .i64 S.inodes, .int .i64 S.cores, .int .i64 S.data, .slice (some ⟨hb, 0, none⟩) S.pages S.pages, .int .i64 0] 51 (0, 0)))
    (hr : w.heap[hb]? = some (.cells (madeCells #[.bool false] S.pages) 4 (0, 0))) (hne : bb ≠ hb) : BookAt w bb hb S S.pages (fun _ => false) (cnt (fun _ => false) S.pages) := by
  refine ⟨?_, ⟨_, hr, fun i hi => made_at _ _ _ hi⟩, hne⟩
  rw [hd, cnt_zero']; rfl
end Go.Proofs.YtoghdhjeopcjkaaDoor
