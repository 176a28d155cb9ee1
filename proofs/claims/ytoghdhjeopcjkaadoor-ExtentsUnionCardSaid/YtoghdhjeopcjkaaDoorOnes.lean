
/- Plain facts: how many bits of a word are on, as the library's OnesCount64 reckons it. Conditions: those of each lemma. -/
import Derived.Test.YtoghdhjeopcjkaaDoorBase
namespace Go.Proofs.YtoghdhjeopcjkaaDoor

/-- A number out of its bytes. -/
def J : List Nat → Nat
  | [] => 0
  | a :: l => a + 256 * J l
theorem and_split (a b c d : Nat) (ha : a < 256) (hc : c < 256) : (a + 256 * b) &&& (c + 256 * d) = (a &&& c) + 256 * (b &&& d) := by
  have h1 := Nat.and_mod_two_pow (a := a + 256 * b) (b := c + 256 * d) (n := 8)
  have h2 := Nat.and_div_two_pow (a := a + 256 * b) (b := c + 256 * d) (n := 8)
  rw [show (2 : Nat) ^ 8 = 256 by decide] at h1 h2
  rw [show (a + 256 * b) % 256 = a by omega, show (c + 256 * d) % 256 = c by omega] at h1
  rw [show (a + 256 * b) / 256 = b by omega, show (c + 256 * d) / 256 = d by omega] at h2
  omega
theorem J_and (l : List Nat) (c n : Nat) (hl : ∀ a ∈ l, a < 256) (hc : c < 256) (hn : n = l.length) : J l &&& J (List.replicate n c) = J (l.map (· &&& c)) := by
  subst hn
  induction l with
  | nil => simp [J]
  | cons a l ih =>
    simp only [List.length_cons, List.replicate_succ, J, List.map_cons]
    rw [and_split _ _ _ _ (hl a (by simp)) hc, ih fun x hx => hl x (by simp [hx])]
theorem J_mul (l : List Nat) (f g : Nat → Nat) (k : Nat) (h : ∀ a ∈ l, f a = k * g a) : J (l.map f) = k * J (l.map g) := by
  induction l with
  | nil => simp [J]
  | cons a l ih =>
    simp only [List.map_cons, J]
    rw [ih fun x hx => h x (by simp [hx]), h a (by simp), Nat.mul_add, Nat.mul_left_comm]
theorem J_add (l : List Nat) (f g : Nat → Nat) : J (l.map f) + J (l.map g) = J (l.map fun a => f a + g a) := by
  induction l with
  | nil => simp [J]
  | cons a l ih => simp only [List.map_cons, J]; omega
theorem shr_and (x m k : Nat) : (x >>> k) &&& m = (x &&& (m <<< k)) >>> k := by
  rw [Nat.shiftRight_and_distrib, Nat.shiftLeft_shiftRight]
def s1 (a : Nat) : Nat := (a &&& 170) / 2 + (a &&& 85)
def s2 (a : Nat) : Nat := (a &&& 204) / 4 + (a &&& 51)
theorem s1_lt : ∀ a, a < 256 → 2 * ((a &&& 170) / 2) = a &&& 170 ∧ s1 a < 256 := by decide +kernel
theorem s2_lt : ∀ a, a < 256 → 4 * ((a &&& 204) / 4) = a &&& 204 ∧ s2 a < 256 := by decide +kernel
/-- The bits of a byte that are on. -/
def pop8 (a : Nat) : Nat := cnt (fun j => a.testBit j) 8
theorem pop8_eq : ∀ a, a < 256 → s2 (s1 a) / 16 ≤ 4 ∧ s2 (s1 a) % 16 ≤ 4 ∧ s2 (s1 a) / 16 + s2 (s1 a) % 16 = pop8 a := by decide +kernel
theorem step1 (l : List Nat) (hl : ∀ a ∈ l, a < 256) (hn : l.length = 8) : (J l / 2 &&& 6148914691236517205) + (J l &&& 6148914691236517205) = J (l.map s1) := by
  have m1 : (6148914691236517205 : Nat) = J (List.replicate 8 85) := by decide +kernel
  have m2 : (6148914691236517205 : Nat) <<< 1 = J (List.replicate 8 170) := by decide +kernel
  have e := shr_and (J l) 6148914691236517205 1
  rw [m2, J_and l 170 8 hl (by omega) hn.symm, Nat.shiftRight_eq_div_pow, Nat.shiftRight_eq_div_pow, Nat.pow_one] at e
  rw [e, J_mul l (· &&& 170) (fun a => (a &&& 170) / 2) 2 (fun a ha => (s1_lt a (hl a ha)).1.symm), Nat.mul_div_cancel_left _ (by omega), m1, J_and l 85 8 hl (by omega) hn.symm, J_add]
  rfl
theorem step2 (l : List Nat) (hl : ∀ a ∈ l, a < 256) (hn : l.length = 8) : (J l / 4 &&& 3689348814741910323) + (J l &&& 3689348814741910323) = J (l.map s2) := by
  have m1 : (3689348814741910323 : Nat) = J (List.replicate 8 51) := by decide +kernel
  have m2 : (3689348814741910323 : Nat) <<< 2 = J (List.replicate 8 204) := by decide +kernel
  have e := shr_and (J l) 3689348814741910323 2
  rw [m2, J_and l 204 8 hl (by omega) hn.symm, Nat.shiftRight_eq_div_pow, Nat.shiftRight_eq_div_pow, show (2 : Nat) ^ 2 = 4 by decide] at e
  rw [e, J_mul l (· &&& 204) (fun a => (a &&& 204) / 4) 4 (fun a ha => (s2_lt a (hl a ha)).1.symm), Nat.mul_div_cancel_left _ (by omega), m1, J_and l 51 8 hl (by omega) hn.symm, J_add]
  rfl
/-- Eight bytes. -/
def B8 (a0 a1 a2 a3 a4 a5 a6 a7 : Nat) : List Nat := [a0, a1, a2, a3, a4, a5, a6, a7]
theorem J8 (a0 a1 a2 a3 a4 a5 a6 a7 : Nat) : J (B8 a0 a1 a2 a3 a4 a5 a6 a7) = a0 + 256 * a1 + 65536 * a2 + 16777216 * a3 + 4294967296 * a4 + 1099511627776 * a5 + 281474976710656 * a6 + 72057594037927936 * a7 := by
  simp only [B8, J]; omega
theorem div16 (l Y : Nat) (h : l < 16) : (l + 16 * Y) / 16 = Y := by omega
theorem nib (l h : Nat) (hl : l ≤ 4) (hh : h ≤ 4) (m : Nat) : (l + h + 16 * m) % 16 = l + h := by omega
theorem sumr (l h l' Z : Nat) : l + 16 * (h + 16 * (l' + 16 * Z)) + (h + 16 * (l' + 16 * Z)) = (l + h + 16 * (h + l')) + 256 * (l' + 16 * Z + Z) := by omega
theorem sum0 (l h : Nat) : l + 16 * h + h = l + h + 16 * h + 256 * 0 := by omega
theorem sum16 (l0 h0 l1 h1 l2 h2 l3 h3 l4 h4 l5 h5 l6 h6 l7 h7 Y : Nat) (hY : Y = h0 + 16 * (l1 + 16 * (h1 + 16 * (l2 + 16 * (h2 + 16 * (l3 + 16 * (h3 + 16 * (l4 + 16 * (h4 + 16 * (l5 + 16 * (h5 + 16 * (l6 + 16 * (h6 + 16 * (l7 + 16 * h7)))))))))))))) : l0 + 16 * Y + Y = J (B8 (l0 + h0 + 16 * (h0 + l1)) (l1 + h1 + 16 * (h1 + l2)) (l2 + h2 + 16 * (h2 + l3)) (l3 + h3 + 16 * (h3 + l4)) (l4 + h4 + 16 * (h4 + l5)) (l5 + h5 + 16 * (h5 + l6)) (l6 + h6 + 16 * (h6 + l7)) (l7 + h7 + 16 * h7)) := by
  rw [hY]
  clear hY
  simp only [B8, J]
  rw [sumr l0 h0 l1 (h1 + 16 * (l2 + 16 * (h2 + 16 * (l3 + 16 * (h3 + 16 * (l4 + 16 * (h4 + 16 * (l5 + 16 * (h5 + 16 * (l6 + 16 * (h6 + 16 * (l7 + 16 * h7)))))))))))), sumr l1 h1 l2 (h2 + 16 * (l3 + 16 * (h3 + 16 * (l4 + 16 * (h4 + 16 * (l5 + 16 * (h5 + 16 * (l6 + 16 * (h6 + 16 * (l7 + 16 * h7)))))))))), sumr l2 h2 l3 (h3 + 16 * (l4 + 16 * (h4 + 16 * (l5 + 16 * (h5 + 16 * (l6 + 16 * (h6 + 16 * (l7 + 16 * h7)))))))),
    sumr l3 h3 l4 (h4 + 16 * (l5 + 16 * (h5 + 16 * (l6 + 16 * (h6 + 16 * (l7 + 16 * h7)))))), sumr l4 h4 l5 (h5 + 16 * (l6 + 16 * (h6 + 16 * (l7 + 16 * h7)))), sumr l5 h5 l6 (h6 + 16 * (l7 + 16 * h7)), sumr l6 h6 l7 h7, sum0 l7 h7]
theorem step3 (l0 h0 l1 h1 l2 h2 l3 h3 l4 h4 l5 h5 l6 h6 l7 h7 : Nat) (g0 : l0 ≤ 4 ∧ h0 ≤ 4) (g1 : l1 ≤ 4 ∧ h1 ≤ 4) (g2 : l2 ≤ 4 ∧ h2 ≤ 4) (g3 : l3 ≤ 4 ∧ h3 ≤ 4) (g4 : l4 ≤ 4 ∧ h4 ≤ 4) (g5 : l5 ≤ 4 ∧ h5 ≤ 4) (g6 : l6 ≤ 4 ∧ h6 ≤ 4) (g7 : l7 ≤ 4 ∧ h7 ≤ 4) :
    (J (B8 (l0 + 16 * h0) (l1 + 16 * h1) (l2 + 16 * h2) (l3 + 16 * h3) (l4 + 16 * h4) (l5 + 16 * h5) (l6 + 16 * h6) (l7 + 16 * h7)) / 16 + J (B8 (l0 + 16 * h0) (l1 + 16 * h1) (l2 + 16 * h2) (l3 + 16 * h3) (l4 + 16 * h4) (l5 + 16 * h5) (l6 + 16 * h6) (l7 + 16 * h7))) &&& 1085102592571150095 = J (B8 (l0 + h0) (l1 + h1) (l2 + h2) (l3 + h3) (l4 + h4) (l5 + h5) (l6 + h6) (l7 + h7)) := by
  have g00 : l0 < 16 := by omega
  have gb : ∀ a ∈ B8 (l0 + h0 + 16 * (h0 + l1)) (l1 + h1 + 16 * (h1 + l2)) (l2 + h2 + 16 * (h2 + l3)) (l3 + h3 + 16 * (h3 + l4)) (l4 + h4 + 16 * (h4 + l5)) (l5 + h5 + 16 * (h5 + l6)) (l6 + h6 + 16 * (h6 + l7)) (l7 + h7 + 16 * h7), a < 256 := by
    intro a ha; simp only [B8, List.mem_cons, List.not_mem_nil, or_false] at ha; rcases ha with rfl | rfl | rfl | rfl | rfl | rfl | rfl | rfl <;> omega
  have m1 : (1085102592571150095 : Nat) = J (List.replicate 8 15) := by decide +kernel
  obtain ⟨Y, hY⟩ : ∃ Y, Y = h0 + 16 * (l1 + 16 * (h1 + 16 * (l2 + 16 * (h2 + 16 * (l3 + 16 * (h3 + 16 * (l4 + 16 * (h4 + 16 * (l5 + 16 * (h5 + 16 * (l6 + 16 * (h6 + 16 * (l7 + 16 * h7))))))))))))) := ⟨_, rfl⟩
  have e1 : J (B8 (l0 + 16 * h0) (l1 + 16 * h1) (l2 + 16 * h2) (l3 + 16 * h3) (l4 + 16 * h4) (l5 + 16 * h5) (l6 + 16 * h6) (l7 + 16 * h7)) = l0 + 16 * Y := by
    clear g0 g1 g2 g3 g4 g5 g6 g7
    rw [J8, hY]; omega
  have e := sum16 l0 h0 l1 h1 l2 h2 l3 h3 l4 h4 l5 h5 l6 h6 l7 h7 Y hY
  rw [e1, div16 l0 Y g00, Nat.add_comm Y (l0 + 16 * Y), e, m1, J_and _ 15 8 gb (by decide) rfl]
  simp only [B8, List.map_cons, List.map_nil, nat_mask4]
  rw [nib l0 h0 g0.1 g0.2 (h0 + l1), nib l1 h1 g1.1 g1.2 (h1 + l2), nib l2 h2 g2.1 g2.2 (h2 + l3), nib l3 h3 g3.1 g3.2 (h3 + l4), nib l4 h4 g4.1 g4.2 (h4 + l5), nib l5 h5 g5.1 g5.2 (h5 + l6), nib l6 h6 g6.1 g6.2 (h6 + l7), nib l7 h7 g7.1 g7.2 h7]
theorem y_bd (t y : Nat) (k : Nat) (h : t ≤ 8) (hy : y ≤ k) : t + 256 * y ≤ 8 + 256 * k := by omega
theorem f1_eq (t0 y1 : Nat) (h0 : t0 ≤ 8) : (t0 + 256 * y1) / 256 = y1 := by omega
theorem f2_eq (t0 t1 t2 y2 y3 : Nat) (h0 : t0 ≤ 8) (h1 : t1 ≤ 8) (h2 : t2 ≤ 8) : (t0 + 256 * (t1 + 256 * y2) + (t1 + 256 * (t2 + 256 * y3))) / 65536 = y2 + y3 := by omega
theorem f3_eq (a b c d y : Nat) (ha : a ≤ 32) (hb : b ≤ 32) (hc : c ≤ 32) (hd : d ≤ 32) : (a + 256 * b + 65536 * c + 16777216 * d + 4294967296 * y) / 4294967296 = y := by omega
/-- The last three steps: sums of bytes. -/
theorem step4 (t0 t1 t2 t3 t4 t5 t6 t7 : Nat) (h : t0 ≤ 8 ∧ t1 ≤ 8 ∧ t2 ≤ 8 ∧ t3 ≤ 8 ∧ t4 ≤ 8 ∧ t5 ≤ 8 ∧ t6 ≤ 8 ∧ t7 ≤ 8) (x3 x4 x5 x6 : Nat) (e3 : x3 = J (B8 t0 t1 t2 t3 t4 t5 t6 t7)) (e4 : x4 = x3 + x3 / 256) (e5 : x5 = x4 + x4 / 65536) (e6 : x6 = x5 + x5 / 4294967296) :
    x6 < 18446744073709551616 ∧ x4 < 18446744073709551616 ∧ x5 < 18446744073709551616 ∧ x6 % 128 = t0 + t1 + t2 + t3 + t4 + t5 + t6 + t7 := by
  obtain ⟨h0, h1, h2, h3, h4, h5, h6, h7⟩ := h
  obtain ⟨y7, q7⟩ : ∃ y, y = t7 := ⟨_, rfl⟩
  obtain ⟨y6, q6⟩ : ∃ y, y = t6 + 256 * y7 := ⟨_, rfl⟩
  obtain ⟨y5, q5⟩ : ∃ y, y = t5 + 256 * y6 := ⟨_, rfl⟩
  obtain ⟨y4, q4⟩ : ∃ y, y = t4 + 256 * y5 := ⟨_, rfl⟩
  obtain ⟨y3, q3⟩ : ∃ y, y = t3 + 256 * y4 := ⟨_, rfl⟩
  obtain ⟨y2, q2⟩ : ∃ y, y = t2 + 256 * y3 := ⟨_, rfl⟩
  obtain ⟨y1, q1⟩ : ∃ y, y = t1 + 256 * y2 := ⟨_, rfl⟩
  have e3' : x3 = t0 + 256 * y1 := by rw [e3, q1, q2, q3, q4, q5, q6, q7]; rfl
  have b7 : y7 ≤ 8 := by omega
  have b6 : y6 ≤ 2056 := by omega
  have b5 : y5 ≤ 526344 := by omega
  have b4 : y4 ≤ 134744072 := by omega
  have b3 : y3 ≤ 34494482440 := by omega
  have b2 : y2 ≤ 8830587504648 := by omega
  have b1 : y1 ≤ 2260630401189896 := by omega
  have g4 : x4 = x3 + y1 := by rw [e4, e3', f1_eq _ _ h0]
  have g5 : x5 = x4 + (y2 + y3) := by rw [e5, g4, e3', q1, q2, f2_eq _ _ _ _ _ h0 h1 h2, ← q2]
  have g5' : x5 = (t0 + t1 + t2 + t3) + 256 * (t1 + t2 + t3 + t4) + 65536 * (t2 + t3 + t4 + t5) + 16777216 * (t3 + t4 + t5 + t6) + 4294967296 * (y4 + y5 + y6 + y7) := by
    clear b1 b2 b3 b4 b5 b6 b7 e3 e4 e5 e6 h0 h1 h2 h3 h4 h5 h6 h7
    omega
  have g6 : x6 = x5 + (y4 + y5 + y6 + y7) := by rw [e6, g5', f3_eq _ _ _ _ _ (by omega) (by omega) (by omega) (by omega)]
  have g6' : x6 = (t0 + t1 + t2 + t3 + t4 + t5 + t6 + t7) + 256 * (y1 + y2 + y3 + y4 + y5 + y6 + y7) := by
    clear b1 b2 b3 b4 b5 b6 b7 e3 e4 e5 e6 h0 h1 h2 h3 h4 h5 h6 h7 g5'
    omega
  refine ⟨by clear e3 e4 e5 e6 g5'; omega, by clear e3 e4 e5 e6 g5'; omega, by clear e3 e4 e5 e6 g5'; omega, ?_⟩
  clear e3 e4 e5 e6 g5' g4 g5 e3' g6 q1 q2 q3 q4 q5 q6 q7 b1 b2 b3 b4 b5 b6 b7
  omega
theorem cnt_split (f : Nat → Bool) (n m : Nat) : cnt f (n + m) = cnt f n + cnt (fun i => f (n + i)) m := by
  induction m with
  | zero => rfl
  | succ m ih => rw [← Nat.add_assoc]; simp only [cnt]; rw [ih]; omega
theorem cnt_byte (a x n : Nat) (ha : a < 256) : cnt (fun j => (a + 256 * x).testBit j) (8 + n) = pop8 a + cnt (fun j => x.testBit j) n := by
  rw [cnt_split]
  congr 1
  · refine cnt_congr 8 fun i hi => ?_
    have h1 := Nat.testBit_mod_two_pow (a + 256 * x) 8 i
    rw [show (2 : Nat) ^ 8 = 256 by decide, show (a + 256 * x) % 256 = a by omega] at h1
    rw [h1]; simp [hi]
  · refine cnt_congr n fun i _ => ?_
    have h1 := Nat.testBit_div_two_pow (a + 256 * x) i (n := 8)
    rw [show (2 : Nat) ^ 8 = 256 by decide, show (a + 256 * x) / 256 = x by omega] at h1
    rw [h1, Nat.add_comm i 8]
/-- How many bits of a word are on. -/
def pop (x : Nat) : Nat := cnt (fun j => x.testBit j) 64
theorem pop_le (x : Nat) : pop x ≤ 64 := cnt_le _ _
theorem pop_J (a0 a1 a2 a3 a4 a5 a6 a7 : Nat) (h : a0 < 256 ∧ a1 < 256 ∧ a2 < 256 ∧ a3 < 256 ∧ a4 < 256 ∧ a5 < 256 ∧ a6 < 256 ∧ a7 < 256) :
    pop (J (B8 a0 a1 a2 a3 a4 a5 a6 a7)) = pop8 a0 + pop8 a1 + pop8 a2 + pop8 a3 + pop8 a4 + pop8 a5 + pop8 a6 + pop8 a7 := by
  obtain ⟨g0, g1, g2, g3, g4, g5, g6, g7⟩ := h
  have hz : ∀ n, cnt (fun j => (0 : Nat).testBit j) n = 0 := fun n => by induction n with
    | zero => rfl
    | succ n ih => simp only [cnt, Nat.zero_testBit, Bool.false_eq_true, if_false]; simpa using ih
  simp only [pop, B8, J]
  rw [show (64 : Nat) = 8 + (8 + (8 + (8 + (8 + (8 + (8 + (8 + 0))))))) by rfl, cnt_byte _ _ _ g0, cnt_byte _ _ _ g1, cnt_byte _ _ _ g2, cnt_byte _ _ _ g3, cnt_byte _ _ _ g4, cnt_byte _ _ _ g5, cnt_byte _ _ _ g6, cnt_byte _ _ _ g7, hz]
  omega
theorem bytes_of' (n : Nat) : ∀ x, x < 256 ^ n → ∃ l : List Nat, l.length = n ∧ (∀ a ∈ l, a < 256) ∧ x = J l := by
  induction n with
  | zero => intro x hx; exact ⟨[], rfl, by simp, by simp at hx; simp [J, hx]⟩
  | succ n ih =>
    intro x hx
    obtain ⟨l, h1, h2, h3⟩ := ih (x / 256) (by rw [Nat.pow_succ] at hx; exact Nat.div_lt_of_lt_mul (by rw [Nat.mul_comm]; exact hx))
    refine ⟨x % 256 :: l, by simp [h1], fun a ha => ?_, ?_⟩
    · simp at ha
      rcases ha with rfl | ha
      · exact Nat.mod_lt _ (by omega)
      · exact h2 a ha
    · simp only [J]; rw [← h3]; omega
theorem bytes_of (x : Nat) (hx : x < 18446744073709551616) : ∃ a0 a1 a2 a3 a4 a5 a6 a7, x = J (B8 a0 a1 a2 a3 a4 a5 a6 a7) ∧ a0 < 256 ∧ a1 < 256 ∧ a2 < 256 ∧ a3 < 256 ∧ a4 < 256 ∧ a5 < 256 ∧ a6 < 256 ∧ a7 < 256 := by
  obtain ⟨l, h1, h2, h3⟩ := bytes_of' 8 x (by rw [show (256 : Nat) ^ 8 = 18446744073709551616 by decide]; exact hx)
  match l, h1 with
  | [a0, a1, a2, a3, a4, a5, a6, a7], _ => exact ⟨a0, a1, a2, a3, a4, a5, a6, a7, h3, h2 _ (by simp), h2 _ (by simp), h2 _ (by simp), h2 _ (by simp), h2 _ (by simp), h2 _ (by simp), h2 _ (by simp), h2 _ (by simp)⟩
theorem J_lt (a0 a1 a2 a3 a4 a5 a6 a7 : Nat) (h : a0 < 256 ∧ a1 < 256 ∧ a2 < 256 ∧ a3 < 256 ∧ a4 < 256 ∧ a5 < 256 ∧ a6 < 256 ∧ a7 < 256) : J (B8 a0 a1 a2 a3 a4 a5 a6 a7) < 18446744073709551616 := by
  rw [J8]; omega
theorem J_lt2 (a0 a1 a2 a3 a4 a5 a6 a7 : Nat) (h : a0 ≤ 68 ∧ a1 ≤ 68 ∧ a2 ≤ 68 ∧ a3 ≤ 68 ∧ a4 ≤ 68 ∧ a5 ≤ 68 ∧ a6 ≤ 68 ∧ a7 ≤ 68) : J (B8 a0 a1 a2 a3 a4 a5 a6 a7) < 9223372036854775808 := by
  rw [J8]; omega
theorem nibbles (c : Nat) (p : Nat) (h : c / 16 ≤ 4 ∧ c % 16 ≤ 4 ∧ c / 16 + c % 16 = p) : ∃ l h, c = l + 16 * h ∧ (l ≤ 4 ∧ h ≤ 4) ∧ l + h = p := ⟨c % 16, c / 16, by omega, by omega, by omega⟩
/-- OnesCount64, as the library reckons it. -/
theorem ones_eq (x : Nat) (hx : x < 18446744073709551616) (x1 x2 x3 x4 x5 x6 : Nat) (e1 : x1 = (x / 2 &&& 6148914691236517205) + (x &&& 6148914691236517205)) (e2 : x2 = (x1 / 4 &&& 3689348814741910323) + (x1 &&& 3689348814741910323))
    (e3 : x3 = (x2 / 16 + x2) &&& 1085102592571150095) (e4 : x4 = x3 + x3 / 256) (e5 : x5 = x4 + x4 / 65536) (e6 : x6 = x5 + x5 / 4294967296) :
    x1 < 18446744073709551616 ∧ x2 < 9223372036854775808 ∧ x3 < 18446744073709551616 ∧ x4 < 18446744073709551616 ∧ x5 < 18446744073709551616 ∧ x6 < 18446744073709551616 ∧ x6 % 128 = pop x := by
  obtain ⟨a0, a1, a2, a3, a4, a5, a6, a7, rfl, g0, g1, g2, g3, g4, g5, g6, g7⟩ := bytes_of x hx
  rw [pop_J _ _ _ _ _ _ _ _ ⟨g0, g1, g2, g3, g4, g5, g6, g7⟩]
  rw [step1 _ (by intro a ha; simp only [B8, List.mem_cons, List.not_mem_nil, or_false] at ha; rcases ha with rfl | rfl | rfl | rfl | rfl | rfl | rfl | rfl <;> assumption) rfl] at e1
  have e1' : x1 = J (B8 (s1 a0) (s1 a1) (s1 a2) (s1 a3) (s1 a4) (s1 a5) (s1 a6) (s1 a7)) := e1
  have k0 := (s1_lt _ g0).2; have k1 := (s1_lt _ g1).2; have k2 := (s1_lt _ g2).2; have k3 := (s1_lt _ g3).2; have k4 := (s1_lt _ g4).2; have k5 := (s1_lt _ g5).2; have k6 := (s1_lt _ g6).2; have k7 := (s1_lt _ g7).2
  have b1 : x1 < 18446744073709551616 := by rw [e1']; exact J_lt _ _ _ _ _ _ _ _ ⟨k0, k1, k2, k3, k4, k5, k6, k7⟩
  obtain ⟨l0, h0, c0, d0, p0⟩ := nibbles _ _ (pop8_eq _ g0)
  obtain ⟨l1, h1, c1, d1, p1⟩ := nibbles _ _ (pop8_eq _ g1)
  obtain ⟨l2, h2, c2, d2, p2⟩ := nibbles _ _ (pop8_eq _ g2)
  obtain ⟨l3, h3, c3, d3, p3⟩ := nibbles _ _ (pop8_eq _ g3)
  obtain ⟨l4, h4, c4, d4, p4⟩ := nibbles _ _ (pop8_eq _ g4)
  obtain ⟨l5, h5, c5, d5, p5⟩ := nibbles _ _ (pop8_eq _ g5)
  obtain ⟨l6, h6, c6, d6, p6⟩ := nibbles _ _ (pop8_eq _ g6)
  obtain ⟨l7, h7, c7, d7, p7⟩ := nibbles _ _ (pop8_eq _ g7)
  rw [e1', step2 _ (by intro a ha; simp only [B8, List.mem_cons, List.not_mem_nil, or_false] at ha; rcases ha with rfl | rfl | rfl | rfl | rfl | rfl | rfl | rfl <;> assumption) rfl] at e2
  have e2' : x2 = J (B8 (s2 (s1 a0)) (s2 (s1 a1)) (s2 (s1 a2)) (s2 (s1 a3)) (s2 (s1 a4)) (s2 (s1 a5)) (s2 (s1 a6)) (s2 (s1 a7))) := e2
  rw [c0, c1, c2, c3, c4, c5, c6, c7] at e2'
  have b2 : x2 < 9223372036854775808 := by
    rw [e2']
    clear e1 e2 e3 e4 e5 e6 e1' e2' b1 k0 k1 k2 k3 k4 k5 k6 k7 c0 c1 c2 c3 c4 c5 c6 c7 hx
    exact J_lt2 _ _ _ _ _ _ _ _ ⟨by omega, by omega, by omega, by omega, by omega, by omega, by omega, by omega⟩
  rw [e2', step3 _ _ _ _ _ _ _ _ _ _ _ _ _ _ _ _ d0 d1 d2 d3 d4 d5 d6 d7, p0, p1, p2, p3, p4, p5, p6, p7] at e3
  clear c0 c1 c2 c3 c4 c5 c6 c7
  have q0 : pop8 a0 ≤ 8 := cnt_le _ _
  have q1 : pop8 a1 ≤ 8 := cnt_le _ _
  have q2 : pop8 a2 ≤ 8 := cnt_le _ _
  have q3 : pop8 a3 ≤ 8 := cnt_le _ _
  have q4 : pop8 a4 ≤ 8 := cnt_le _ _
  have q5 : pop8 a5 ≤ 8 := cnt_le _ _
  have q6 : pop8 a6 ≤ 8 := cnt_le _ _
  have q7 : pop8 a7 ≤ 8 := cnt_le _ _
  have b3 : x3 < 18446744073709551616 := by
    rw [e3]
    exact J_lt _ _ _ _ _ _ _ _ ⟨by omega, by omega, by omega, by omega, by omega, by omega, by omega, by omega⟩
  have s4 := step4 _ _ _ _ _ _ _ _ ⟨q0, q1, q2, q3, q4, q5, q6, q7⟩ x3 x4 x5 x6 e3 e4 e5 e6
  exact ⟨b1, b2, b3, s4.2.1, s4.2.2.1, s4.1, s4.2.2.2⟩
end Go.Proofs.YtoghdhjeopcjkaaDoor
