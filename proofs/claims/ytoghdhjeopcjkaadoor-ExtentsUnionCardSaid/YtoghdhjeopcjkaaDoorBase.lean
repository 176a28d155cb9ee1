
/- The words of this seat's proofs: what a call leaves alone ('Kp'), what a block holds, marks as bits of words. Conditions: none. -/
import Derived.Test.YtoghdhjeopcjkaaDoorRows
import Derived.WalkKit
import Derived.WalkSpells
import Derived.WalkLawsBesides
import Derived.Deep.QuietTactic
import Derived.BigQuiet
import Derived.WalkSmall
import Derived.Laws.BitsAllLaws
namespace Go.Proofs.YtoghdhjeopcjkaaDoor
open Go.RowKit

theorem hide {p : Prop} (h : p) : Hid p := h
/-- w' is w, but for new blocks and for what the blocks of S hold (and for draws). -/
structure Kp (S : List Nat) (w w' : World) : Prop where
  os : w'.os = w.os
  tape : w'.tape = w.tape
  output : w'.output = w.output
  size : w.heap.size ≤ w'.heap.size
  block : ∀ k, k < w.heap.size → k ∉ S → w'.heap[k]? = w.heap[k]?

theorem Kp.refl (S : List Nat) (w : World) : Kp S w w := ⟨rfl, rfl, rfl, Nat.le_refl _, fun _ _ _ => rfl⟩
theorem Kp.trans {S T : List Nat} {a b c : World} (h : Kp S a b) (k : Kp T b c) (hs : ∀ x ∈ T, x ∈ S ∨ a.heap.size ≤ x) : Kp S a c :=
  ⟨k.os.trans h.os, k.tape.trans h.tape, k.output.trans h.output, Nat.le_trans h.size k.size, fun i hi hn =>
    (k.block i (Nat.lt_of_lt_of_le hi h.size) (fun hm => by rcases hs i hm with h1 | h1; exact hn h1; omega)).trans (h.block i hi hn)⟩
theorem Kp.trans' {S : List Nat} {a b c : World} (h : Kp S a b) (k : Kp S b c) : Kp S a c := h.trans k fun _ hx => .inl hx
theorem Kp.mono {S T : List Nat} {a b : World} (h : Kp S a b) (hs : ∀ x ∈ S, x ∈ T) : Kp T a b :=
  ⟨h.os, h.tape, h.output, h.size, fun i hi hn => h.block i hi fun hm => hn (hs i hm)⟩
theorem Kp.drewN {S : List Nat} {a b : World} (h : Kp S a b) (n : Nat) : Kp S a (b.drewN n) := ⟨h.os, h.tape, h.output, h.size, h.block⟩
theorem Kp.drew {S : List Nat} {a b : World} (h : Kp S a b) : Kp S a b.drew := ⟨h.os, h.tape, h.output, h.size, h.block⟩
theorem Kp.quiet {S : List Nat} {a b : World} (h : ∃ n, b = a.drewN n) : Kp S a b := by obtain ⟨n, rfl⟩ := h; exact (Kp.refl S a).drewN n
theorem Kp.alloc {S : List Nat} {a b : World} (h : Kp S a b) (o : Obj) : Kp S a (b.alloc o) :=
  h.trans (T := []) ⟨rfl, rfl, rfl, by simp, fun k hk _ => Below.heap_alloc _ _ _ hk⟩ (by simp)
theorem Kp.set {S : List Nat} {a b : World} (h : Kp S a b) {p : Addr} (hp : p.block ∈ S ∨ a.heap.size ≤ p.block) (u : Value) : Kp S a (b.setCell p u) :=
  h.trans (T := [p.block]) ⟨rfl, rfl, rfl, by simp [World.setCell], fun k _ hk => Below.heap_setCell _ _ _ _ (by simpa using hk)⟩ (by simpa using hp)
theorem Kp.grown {S : List Nat} {a b c : World} {row : Option Nat} (h : Kp S a b) (hg : b.grownBy c row) (hr : ∀ k, row = some k → k ∈ S ∨ a.heap.size ≤ k) : Kp S a c :=
  h.trans (T := row.toList) ⟨hg.os, hg.tape, hg.output, hg.size, fun k hk hn => hg.block k hk fun e => hn (by simp [← e])⟩ (by
    intro x hx; cases row with
    | none => simp at hx
    | some y => simp at hx; exact hr x (by rw [hx]))
theorem Kp.blk {S : List Nat} {w w' : World} (h : Kp S w w') {b : Nat} {o : Obj} (hb : w.heap[b]? = some o) (hS : b ∉ S) : w'.heap[b]? = some o :=
  (h.block b (Array.getElem?_eq_some_iff.1 hb).1 hS).trans hb
theorem Kp.below {w w' : World} (h : Kp [] w w') : Below w.heap.size w w' := ⟨h.os, h.tape, h.output, h.size, fun k hk => h.block k hk (by simp)⟩
theorem Kp.cell {S : List Nat} {w w' : World} (h : Kp S w w') {a : Addr} {v : Value} (hc : w.cell? a = some v) (hS : a.block ∉ S) : w'.cell? a = some v :=
  (World.cell?_of_block (h.block a.block (World.block_lt_of_cell? w a hc) hS)).trans hc
/-- Blocks made since w, let go of. -/
theorem Kp.drop {S : List Nat} {w w' : World} (h : Kp S w w') (hs : ∀ x ∈ S, w.heap.size ≤ x) : Kp [] w w' :=
  ⟨h.os, h.tape, h.output, h.size, fun i hi _ => h.block i hi fun hm => by have := hs i hm; omega⟩

theorem blk_lt {w : World} {b : Nat} {o : Obj} (h : w.heap[b]? = some o) : b < w.heap.size := (Array.getElem?_eq_some_iff.1 h).1
theorem blk_cell {w : World} {b : Nat} {c : Array Value} {T : TypeId} {fr : Nat × Nat} (h : w.heap[b]? = some (.cells c T fr)) (i : Nat) : w.cell? ⟨b, i, none⟩ = c[i]? := by
  simp [World.cell?, h]
theorem blk_free {w : World} {b : Nat} {c : Array Value} {T : TypeId} (h : w.heap[b]? = some (.cells c T (0, 0))) (i : Nat) : w.frozen? ⟨b, i, none⟩ = false := by
  simp [World.frozen?, h]
theorem blk_set {w : World} {b o : Nat} {c : Array Value} {T : TypeId} {fr : Nat × Nat} (h : w.heap[b]? = some (.cells c T fr)) (v : Value) :
    (w.setCell ⟨b, o, none⟩ v).heap[b]? = some (.cells (c.setIfInBounds o v) T fr) := by
  simp only [World.setCell, Array.getElem?_modify, h]
  simp
theorem blk_set_ne {w : World} {b : Nat} {o : Obj} (h : w.heap[b]? = some o) {a : Addr} (hne : b ≠ a.block) (v : Value) : (w.setCell a v).heap[b]? = some o := by
  rw [Below.heap_setCell _ _ _ _ hne]; exact h
theorem blk_alloc {w : World} {b : Nat} {o : Obj} (h : w.heap[b]? = some o) (x : Obj) : (w.alloc x).heap[b]? = some o := by
  rw [Below.heap_alloc _ _ _ (blk_lt h)]; exact h
theorem blk_new (w : World) (o : Obj) : (w.alloc o).heap[w.heap.size]? = some o := by
  show (w.heap.push o)[w.heap.size]? = _
  simp

theorem blk4 {w : World} {b : Nat} {x0 x1 x2 x3 : Value} {T : TypeId} {fr : Nat × Nat} (h : w.heap[b]? = some (.cells #[x0, x1, x2, x3] T fr)) :
    w.cell? ⟨b, 0, none⟩ = some x0 ∧ w.cell? ⟨b, 1, none⟩ = some x1 ∧ w.cell? ⟨b, 2, none⟩ = some x2 ∧ w.cell? ⟨b, 3, none⟩ = some x3 := by
  simp [World.cell?, h]
theorem blk2 {w : World} {b : Nat} {x0 x1 : Value} {T : TypeId} {fr : Nat × Nat} (h : w.heap[b]? = some (.cells #[x0, x1] T fr)) :
    w.cell? ⟨b, 0, none⟩ = some x0 ∧ w.cell? ⟨b, 1, none⟩ = some x1 := by
  simp [World.cell?, h]
theorem blk_new' {w : World} {n : Nat} (h : w.heap.size = n) (o : Obj) : (w.alloc o).heap[n]? = some o := by subst h; exact blk_new _ _
/-- max and min, kept whole for a walk. -/
def mx (a b : Int) : Int := if b > a then b else a
def mn (a b : Int) : Int := if b < a then b else a
theorem run_mx (w : World) (ts : Array TypeId) (t : TypeId) (k k' : IntKind) (x y : Int) : (Builtin.max_ ts t #[.int k x, .int k' y]).run Tryd.prog w = .ok (.int k (mx x y)) w := run_max_int2 w ts t k k' x y
theorem run_mn (w : World) (ts : Array TypeId) (t : TypeId) (k k' : IntKind) (x y : Int) : (Builtin.min_ ts t #[.int k x, .int k' y]).run Tryd.prog w = .ok (.int k (mn x y)) w := run_min_int2 w ts t k k' x y
theorem mx_le (a b : Int) : a ≤ mx a b ∧ b ≤ mx a b ∧ (mx a b = a ∨ mx a b = b) := by unfold mx; split <;> omega
theorem mn_le (a b : Int) : mn a b ≤ a ∧ mn a b ≤ b ∧ (mn a b = a ∨ mn a b = b) := by unfold mn; split <;> omega
/-- How many marks below n are on. -/
def cnt (on : Nat → Bool) : Nat → Nat
  | 0 => 0
  | n + 1 => cnt on n + if on n then 1 else 0
theorem cnt_le (on : Nat → Bool) (n : Nat) : cnt on n ≤ n := by
  induction n with
  | zero => simp [cnt]
  | succ n ih => simp only [cnt]; split <;> omega
theorem cnt_congr {on on' : Nat → Bool} (n : Nat) (h : ∀ i, i < n → on i = on' i) : cnt on n = cnt on' n := by
  induction n with
  | zero => rfl
  | succ n ih => simp only [cnt]; rw [ih fun i hi => h i (by omega), h n (by omega)]
/-- One mark turned. -/
def put (on : Nat → Bool) (i : Nat) (b : Bool) : Nat → Bool := fun j => if j = i then b else on j
theorem put_same (on : Nat → Bool) (i : Nat) (b : Bool) : put on i b i = b := by simp [put]
theorem put_other (on : Nat → Bool) {i j : Nat} (h : j ≠ i) (b : Bool) : put on i b j = on j := by simp [put, h]
theorem put_self {on : Nat → Bool} {i : Nat} {b : Bool} (h : on i = b) : put on i b = on := by
  funext j; by_cases e : j = i
  · subst e; simp [put, h]
  · simp [put, e]
theorem cnt_put_on {on : Nat → Bool} {i n : Nat} (hi : i < n) (h : on i = false) : cnt (put on i true) n = cnt on n + 1 := by
  induction n with
  | zero => omega
  | succ n ih =>
    simp only [cnt]
    by_cases e : i = n
    · subst e; rw [cnt_congr (on' := on) i (fun j hj => put_other _ (by omega) _), put_same, h]; simp
    · rw [ih (by omega), put_other _ (by omega)]; omega
theorem cnt_put_off {on : Nat → Bool} {i n : Nat} (hi : i < n) (h : on i = true) : cnt (put on i false) n + 1 = cnt on n := by
  induction n with
  | zero => omega
  | succ n ih =>
    simp only [cnt]
    by_cases e : i = n
    · subst e; rw [cnt_congr (on' := on) i (fun j hj => put_other _ (by omega) _), put_same, h]; simp
    · have := ih (by omega); rw [put_other _ (by omega)]; omega

/-- Word k of the marks. -/
def WordOk (x k : Nat) (on : Nat → Bool) : Prop := x < 18446744073709551616 ∧ ∀ j, j < 64 → x.testBit j = on (64 * k + j)

theorem wrap_shl (j : Nat) (h : j < 64) : IntKind.u64.wrap (2 ^ j) = ((2 ^ j : Nat) : Int) := by
  rw [IntKind.wrap_u64]
  have h1 : (2 : Nat) ^ j < 2 ^ 64 := Nat.pow_lt_pow_right (by omega) h
  have h2 : (2 : Nat) ^ 64 = 18446744073709551616 := by decide
  rw [h2] at h1
  have h3 : ((2 : Int) ^ j) = ((2 ^ j : Nat) : Int) := by simp
  rw [h3]
  generalize (2 : Nat) ^ j = y at h1
  omega
theorem and_pow (x j : Nat) : x &&& 2 ^ j = if x.testBit j then 2 ^ j else 0 := by
  apply Nat.eq_of_testBit_eq
  intro i
  rw [Nat.testBit_and, Nat.testBit_two_pow]
  by_cases e : j = i
  · subst e; cases h : x.testBit j <;> simp
  · cases h : x.testBit j <;> simp [e]
theorem pow_lt_word (j : Nat) (h : j < 64) : 2 ^ j < 18446744073709551616 := by
  have h1 : (2 : Nat) ^ j < 2 ^ 64 := Nat.pow_lt_pow_right (by omega) h
  have h2 : (2 : Nat) ^ 64 = 18446744073709551616 := by decide
  omega
/-- Is the mark i on? As the program asks. -/
theorem word_has {x i : Nat} {on : Nat → Bool} (h : WordOk x (i / 64) on) : (bits .and .u64 (x : Int) (IntKind.u64.wrap (2 ^ (i % 64))) != 0) = on i := by
  have hj : i % 64 < 64 := Nat.mod_lt _ (by omega)
  rw [wrap_shl _ hj, u64_and_nat _ _ h.1 (pow_lt_word _ hj)]
  have h2 := h.2 _ hj
  have e : 64 * (i / 64) + i % 64 = i := Nat.div_add_mod i 64
  rw [e] at h2
  rw [and_pow, ← h2]
  have h3 : 0 < 2 ^ (i % 64) := Nat.two_pow_pos _
  cases x.testBit (i % 64)
  · rfl
  · generalize (2 : Nat) ^ (i % 64) = y at h3
    simp; omega
theorem word_set {x i : Nat} {on : Nat → Bool} (h : WordOk x (i / 64) on) :
    ∃ y : Nat, bits .or .u64 (x : Int) (IntKind.u64.wrap (2 ^ (i % 64))) = (y : Int) ∧ WordOk y (i / 64) (put on i true) := by
  have hj : i % 64 < 64 := Nat.mod_lt _ (by omega)
  refine ⟨x ||| 2 ^ (i % 64), ?_, ?_, ?_⟩
  · rw [wrap_shl _ hj, u64_or_nat _ _ h.1 (pow_lt_word _ hj)]
  · have h2 : (2 : Nat) ^ 64 = 18446744073709551616 := by decide
    rw [← h2]
    exact Nat.or_lt_two_pow (by rw [h2]; exact h.1) (Nat.pow_lt_pow_right (by omega) hj)
  · intro j hj2
    rw [Nat.testBit_or, Nat.testBit_two_pow]
    by_cases e : j = i % 64
    · subst e
      have e2 : 64 * (i / 64) + i % 64 = i := Nat.div_add_mod i 64
      rw [e2, put_same]; simp
    · rw [put_other _ (by omega), h.2 j hj2]
      simp [show ¬ i % 64 = j from fun c => e c.symm]
theorem word_clear {x i : Nat} {on : Nat → Bool} (h : WordOk x (i / 64) on) :
    ∃ y : Nat, bits .andNot .u64 (x : Int) (IntKind.u64.wrap (2 ^ (i % 64))) = (y : Int) ∧ WordOk y (i / 64) (put on i false) := by
  have hj : i % 64 < 64 := Nat.mod_lt _ (by omega)
  have h2 : (2 : Nat) ^ 64 = 18446744073709551616 := by decide
  refine ⟨x &&& (18446744073709551615 - 2 ^ (i % 64)), ?_, ?_, ?_⟩
  · rw [wrap_shl _ hj, u64_andNot_nat _ _ h.1 (pow_lt_word _ hj)]
  · exact Nat.lt_of_le_of_lt Nat.and_le_left h.1
  · intro j hj2
    rw [Nat.testBit_and]
    have e3 : 18446744073709551615 - 2 ^ (i % 64) = 2 ^ 64 - (2 ^ (i % 64) + 1) := by rw [h2]; omega
    rw [e3, Nat.testBit_two_pow_sub_succ (by rw [h2]; exact pow_lt_word _ hj), Nat.testBit_two_pow]
    by_cases e : j = i % 64
    · subst e
      have e2 : 64 * (i / 64) + i % 64 = i := Nat.div_add_mod i 64
      rw [e2, put_same]; simp
    · rw [put_other _ (by omega), h.2 j hj2]
      simp [show ¬ i % 64 = j from fun c => e c.symm, hj2]
theorem word_other {x k i : Nat} {on : Nat → Bool} (h : WordOk x k on) (hk : k ≠ i / 64) (b : Bool) : WordOk x k (put on i b) :=
  ⟨h.1, fun j hj => by rw [put_other _ (by omega)]; exact h.2 j hj⟩
theorem word_zero (k : Nat) {on : Nat → Bool} (h : ∀ i, on i = false) : WordOk 0 k on := ⟨by omega, fun j _ => by simp [h]⟩

/-- A bitmap's struct lies in block b (its first cells; 'tail': what the struct holds behind them), its words in block wb; n marks, those of 'on' are set. -/
structure MarksAt (w : World) (b wb cap T : Nat) (tail : List Value) (n : Nat) (on : Nat → Bool) : Prop where
  hd : w.heap[b]? = some (.cells ([Value.int .i64 n, Value.int .i64 (cnt on n), Value.slice (some ⟨wb, 0, none⟩) ((n + 63) / 64) cap] ++ tail).toArray T (0, 0))
  ws : ∃ c : Array Value, w.heap[wb]? = some (.cells c 73 (0, 0)) ∧ ∀ k, k < (n + 63) / 64 → ∃ x : Nat, c[k]? = some (.int .u64 x) ∧ WordOk x k on
  ne : b ≠ wb
  nle : n ≤ 1024
  off : ∀ i, n ≤ i → on i = false

section
variable {w w' : World} {b wb cap T : Nat} {tail : List Value} {n : Nat} {on : Nat → Bool}
theorem MarksAt.keep {S : List Nat} (h : MarksAt w b wb cap T tail n on) (k : Kp S w w') (h1 : b ∉ S) (h2 : wb ∉ S) : MarksAt w' b wb cap T tail n on :=
  ⟨k.blk h.hd h1, by obtain ⟨c, h3, h4⟩ := h.ws; exact ⟨c, k.blk h3 h2, h4⟩, h.ne, h.nle, h.off⟩
theorem MarksAt.drewN (h : MarksAt w b wb cap T tail n on) (k : Nat) : MarksAt (w.drewN k) b wb cap T tail n on := h.keep (S := []) ((Kp.refl _ _).drewN k) (by simp) (by simp)
theorem MarksAt.lt (h : MarksAt w b wb cap T tail n on) : b < w.heap.size := blk_lt h.hd
theorem MarksAt.wlt (h : MarksAt w b wb cap T tail n on) : wb < w.heap.size := by obtain ⟨c, h3, _⟩ := h.ws; exact blk_lt h3
theorem MarksAt.c0 (h : MarksAt w b wb cap T tail n on) : w.cell? ⟨b, 0, none⟩ = some (.int .i64 n) := by rw [blk_cell h.hd]; simp
theorem MarksAt.c1 (h : MarksAt w b wb cap T tail n on) : w.cell? ⟨b, 1, none⟩ = some (.int .i64 (cnt on n)) := by rw [blk_cell h.hd]; simp
theorem MarksAt.c2 (h : MarksAt w b wb cap T tail n on) : w.cell? ⟨b, 2, none⟩ = some (.slice (some ⟨wb, 0, none⟩) ((n + 63) / 64) cap) := by rw [blk_cell h.hd]; simp
theorem MarksAt.c3 (h : MarksAt w b wb cap T tail n on) (i : Nat) : w.cell? ⟨b, i + 3, none⟩ = tail[i]? := by rw [blk_cell h.hd]; simp
theorem MarksAt.f (h : MarksAt w b wb cap T tail n on) (i : Nat) : w.frozen? ⟨b, i, none⟩ = false := blk_free h.hd i
theorem MarksAt.wf (h : MarksAt w b wb cap T tail n on) (i : Nat) : w.frozen? ⟨wb, i, none⟩ = false := by obtain ⟨c, h3, _⟩ := h.ws; exact blk_free h3 i
theorem MarksAt.word (h : MarksAt w b wb cap T tail n on) {i : Nat} (hi : i < n) : ∃ x : Nat, w.cell? ⟨wb, i / 64, none⟩ = some (.int .u64 x) ∧ WordOk x (i / 64) on := by
  obtain ⟨c, h3, h4⟩ := h.ws
  obtain ⟨x, h5, h6⟩ := h4 (i / 64) (by omega)
  exact ⟨x, by rw [blk_cell h3]; exact h5, h6⟩
theorem MarksAt.cntle (h : MarksAt w b wb cap T tail n on) : cnt on n ≤ 1024 := Nat.le_trans (cnt_le on n) h.nle
/-- What a store into the word of mark i and one into the count leave. -/
theorem MarksAt.turn (h : MarksAt w b wb cap T tail n on) {i y : Nat} (v : Bool) (hi : i < n) (hy : WordOk y (i / 64) (put on i v)) {m : Int} (hm : m = cnt (put on i v) n) :
    MarksAt ((w.setCell ⟨wb, i / 64, none⟩ (.int .u64 y)).setCell ⟨b, 1, none⟩ (.int .i64 m)) b wb cap T tail n (put on i v) := by
  obtain ⟨c, h3, h4⟩ := h.ws
  refine ⟨?_, ⟨c.setIfInBounds (i / 64) (.int .u64 y), ?_, ?_⟩, h.ne, h.nle, ?_⟩
  · rw [blk_set (blk_set_ne h.hd h.ne _), hm]; simp
  · rw [blk_set_ne (blk_set h3 _) (Ne.symm h.ne)]
  · intro k hk
    by_cases e : k = i / 64
    · subst e
      obtain ⟨x, h5, _⟩ := h4 _ hk
      have hlt := (Array.getElem?_eq_some_iff.1 h5).1
      exact ⟨y, by simp [hlt], hy⟩
    · obtain ⟨x, h5, h6⟩ := h4 k hk
      exact ⟨x, by rw [Array.getElem?_setIfInBounds, if_neg (by omega)]; exact h5, word_other h6 e v⟩
  · intro j hj; rw [put_other _ (by omega)]; exact h.off j hj
end
end Go.Proofs.YtoghdhjeopcjkaaDoor
