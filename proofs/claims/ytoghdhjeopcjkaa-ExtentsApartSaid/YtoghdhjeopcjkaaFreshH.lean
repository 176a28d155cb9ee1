/- Contracts in the form of the law ExtentsFresh; plain facts on two takes and two gives. Conditions: those of each lemma. -/
import Derived.Test.YtoghdhjeopcjkaaHoles
import Derived.Test.YtoghdhjeopcjkaaRefP
import Derived.Test.YtoghdhjeopcjkaaNearP
namespace Go.Proofs.Ytoghdhjeopcjkaa
open Go.RowKit

theorem Kq.trans2 {S T : Nat → Prop} {a b c : World} (h : Kq S a b) (k : Kq T b c) : Kq (fun x => S x ∨ T x) a c := (h.mono fun _ h => .inl h).trans (k.mono fun _ h => .inr h)
theorem Kp.q0 {w w' : World} (h : Kp [] w w') : Kq (fun _ => False) w w' := h.q.mono (by simp)
theorem Kp.q1 {w w' : World} {a b : Nat} (h : Kp [a, b] w w') : Kq (fun x => x = a ∨ x = b) w w' := h.q.mono (by simp)
theorem Kp.trans2q {T : Nat → Prop} {a b c : World} (h : Kp [] a b) (k : Kq T b c) : Kq T a c := (h.q.mono (by simp)).trans k
theorem sameSpans_k {w : World} {v1 v2 : Value} {l : Sps} (h1 : RdS w v1 l) (h2 : RdS w v2 l) (hlen : l.length ≤ 1099511627776) :
    Calls Try.prog 26 #[v1, v2] w fun e w' => e = .returned (.bool true) ∧ Kp [] w w' :=
  (sameSpans_eq h1 h2 hlen).mono fun _ _ ⟨h, k, hk⟩ => ⟨h, hk ▸ (Kp.refl _ _).drewN k⟩
theorem count_k {w : World} {v : Value} {P : List Nat} {n : Nat} (h : RdS w v (spansOf P)) (hP : P.length = n) (hn : n ≤ 1024) (hb : ∀ i ∈ P, i < 1024) :
    Calls Try.prog 30 #[v] w fun e w' => e = .returned (.int .i64 n) ∧ Kp [] w w' := by
  subst hP
  exact (count_any h hn hb).mono fun _ _ ⟨h, k, hk⟩ => ⟨h, hk ▸ (Kp.refl _ _).drewN k⟩
theorem cnt_left {S : Sh} {held : Nat → Bool} (ha : InA S held) {P : List Nat} (hn : P.Nodup) (hP : ∀ i ∈ P, S.data ≤ i ∧ i < S.pages ∧ held i = false) :
    cnt (freeOf S (plus held P)) S.pages = cnt (freeOf S held) S.pages - P.length := by
  have h1 := cnt_free ha
  have h2 := cnt_free (S := S) (held := plus held P) (ha.plus fun i hi => ⟨(hP i hi).1, (hP i hi).2.1⟩)
  rw [cnt_plus hn fun i hi => ⟨(hP i hi).2.1, (hP i hi).2.2⟩] at h2
  omega
theorem minus_two {held : Nat → Bool} {P Q : List Nat} (hP : ∀ i ∈ P, held i = false) (hQ : ∀ i ∈ Q, held i = false) : minus (minus (plus (plus held P) Q) P) Q = held := by
  funext i
  simp only [minus, plus]
  by_cases h1 : i ∈ P
  · simp [h1, hP i h1]
  · by_cases h2 : i ∈ Q
    · simp [h1, h2, hQ i h2]
    · simp [h1, h2]
end Go.Proofs.Ytoghdhjeopcjkaa
