
/- The walk of Pool.Give. Conditions: the pool lies in memory (PoolAt). -/
import Derived.Test.YtoghdhjeopcjkaaDoorInts
import Derived.Test.YtoghdhjeopcjkaaDoorNew
namespace Go.Proofs.YtoghdhjeopcjkaaDoor
open Go.RowKit

section
variable {w : World} {b wb cap T : Nat} {tail : List Value} {n : Nat} {on : Nat → Bool}
/-- marks.set of any mark of the bitmap -/
theorem mset_put (h : MarksAt w b wb cap T tail n on) (x : Int) (i : Nat) (hx : x = i) (hi : i < n) (v : Bool) (hv : on i = v) :
    Calls Tryd.prog 29 #[.pointer (some ⟨b, 0, none⟩), .int .i64 x] w fun e w' => e = .returned (.bool (!v)) ∧ MarksAt w' b wb cap T tail n (put on i true) ∧ Kp [b, wb] w w' := by
  subst hx; subst hv
  cases ho : on i with
  | false => exact (mset_any h i hi ho).mono fun e w' h2 => by simpa using h2
  | true =>
    refine (mset_no h (i : Int) (.inr (.inr (by simpa using ho)))).mono ?_
    rintro e w' ⟨rfl, k, rfl⟩
    rw [put_self ho]
    exact ⟨rfl, h.drewN k, (Kp.refl _ _).drewN k⟩
theorem marks_lit {w1 : World} {bb wb2 m k : Nat} {T : Nat} (hb : w1.heap[bb]? = some (.cells #[.int .i64 m, .int .i64 0, .slice (some ⟨wb2, 0, none⟩) k k] T (0, 0))) (hw : w1.heap[wb2]? = some (.cells (madeCells #[.int .u64 0] k) 73 (0, 0)))
    (hk : k = (m + 63) / 64) (hm : m ≤ 1024) (hne : bb ≠ wb2) : MarksAt w1 bb wb2 k T [] m (fun _ => false) := by
  subst hk
  refine ⟨?_, ⟨_, hw, fun k hk => ⟨0, made_at _ _ _ hk, word_zero k (fun _ => rfl)⟩⟩, hne, hm, fun _ _ => rfl⟩
  rw [hb, cnt_zero' m]; rfl
end

/-- What Give's first loop has put down of the first k pages: which it has seen, and whether one comes twice. -/
def bk (on : Nat → Bool) (l : List Int) : Nat → Nat → Bool
  | 0 => fun _ => false
  | k + 1 => if on (gi l k).toNat then bk on l k else put (bk on l k) (gi l k).toNat true
def tw (on : Nat → Bool) (l : List Int) : Nat → Bool
  | 0 => false
  | k + 1 => tw on l k || (on (gi l k).toNat || bk on l k (gi l k).toNat)
def twv (v : Bool) : Int := if v then 51 else 0
theorem twv_or (v : Bool) : twv (v || true) = 51 := by simp [twv]
/-- The marks with the first k pages set. -/
def pl (on : Nat → Bool) (l : List Int) : Nat → Nat → Bool
  | 0 => on
  | k + 1 => put (pl on l k) (gi l k).toNat true
def inTo (S : Sh) (l : List Int) (k : Nat) : Prop := ∀ j, j < k → (S.data : Int) ≤ gi l j ∧ gi l j < S.pages

def GivePost (S : Sh) (b wb cap : Nat) (on : Nat → Bool) (l : List Int) (w : World) (e : Ending) (w' : World) : Prop :=
  Kp [b, wb] w w' ∧ ((¬ inTo S l l.length ∧ e = .returned (.int .i64 52) ∧ PoolAt w' b wb cap S on) ∨ (inTo S l l.length ∧ tw on l l.length = true ∧ e = .returned (.int .i64 51) ∧ PoolAt w' b wb cap S on) ∨
    (inTo S l l.length ∧ tw on l l.length = false ∧ e = .returned (.int .i64 0) ∧ PoolAt w' b wb cap S (pl on l l.length)))

section
variable {w : World} {b wb cap : Nat} {on : Nat → Bool} {S : Sh}
end
end Go.Proofs.YtoghdhjeopcjkaaDoor
