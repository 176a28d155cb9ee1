
/- What a call leaves alone, by a predicate on blocks. Conditions: none. -/
import Derived.Test.YtoghdhjeopcjkaaDoorPlayed
import Derived.Test.YtoghdhjeopcjkaaDoorAreas
namespace Go.Proofs.YtoghdhjeopcjkaaDoor
open Go.RowKit

/-- w' is w, but for new blocks and for what the blocks that S tells hold (and for draws). -/
def Kq (S : Nat → Prop) (w w' : World) : Prop := ∃ L : List Nat, (∀ x ∈ L, S x) ∧ Kp L w w'
theorem Kp.q {L : List Nat} {w w' : World} (h : Kp L w w') : Kq (fun x => x ∈ L) w w' := ⟨L, fun _ h => h, h⟩
theorem Kq.mono {S T : Nat → Prop} {w w' : World} (h : Kq S w w') (hs : ∀ x, S x → T x) : Kq T w w' := by
  obtain ⟨L, h1, h2⟩ := h
  exact ⟨L, fun x hx => hs x (h1 x hx), h2⟩
theorem Kq.trans {S : Nat → Prop} {a b c : World} (h : Kq S a b) (k : Kq S b c) : Kq S a c := by
  obtain ⟨L, h1, h2⟩ := h
  obtain ⟨M, k1, k2⟩ := k
  exact ⟨L ++ M, fun x hx => by rcases List.mem_append.1 hx with hx | hx; exact h1 x hx; exact k1 x hx, (h2.mono (by simp +contextual)).trans' (k2.mono (by simp +contextual))⟩
theorem Kq.size {S : Nat → Prop} {w w' : World} (h : Kq S w w') : w.heap.size ≤ w'.heap.size := by obtain ⟨L, _, h2⟩ := h; exact h2.size
theorem Kq.drop {S : Nat → Prop} {w w' : World} (h : Kq S w w') (hs : ∀ x, S x → w.heap.size ≤ x) : Kp [] w w' := by
  obtain ⟨L, h1, h2⟩ := h
  exact h2.drop fun x hx => hs x (h1 x hx)
theorem Kq.refl (S : Nat → Prop) (w : World) : Kq S w w := ⟨[], by simp, Kp.refl _ _⟩
theorem Kq.blk {S : Nat → Prop} {w w' : World} (h : Kq S w w') {b : Nat} {o : Obj} (hb : w.heap[b]? = some o) (hS : ¬ S b) : w'.heap[b]? = some o := by
  obtain ⟨L, h1, h2⟩ := h
  exact h2.blk hb fun hx => hS (h1 _ hx)
theorem RdS.keepq {S : Nat → Prop} {w w' : World} {v : Value} {l : Sps} (h : RdS w v l) (k : Kq S w w') (hS : ∀ b, v.ownBlock = some b → ¬ S b) : RdS w' v l := by
  obtain ⟨L, h1, h2⟩ := k
  exact h.keep h2 fun b hb hx => hS b hb (h1 b hx)
theorem Own.keepq {S : Nat → Prop} {w w' : World} {base : Nat} {v : Value} {l : Sps} (h : Own w base v l) (k : Kq S w w') (hS : ∀ b, v.ownBlock = some b → ¬ S b) : Own w' base v l := by
  obtain ⟨L, h1, h2⟩ := k
  exact h.keep h2 fun b hb hx => hS b hb (h1 b hx)
theorem PoolAt.keepq {T : Nat → Prop} {w w' : World} {b wb cap : Nat} {on : Nat → Bool} {S : Sh} (h : PoolAt w b wb cap S on) (k : Kq T w w') (h1 : ¬ T b) (h2 : ¬ T wb) : PoolAt w' b wb cap S on := by
  obtain ⟨L, k1, k2⟩ := k
  exact h.keep k2 (fun hx => h1 (k1 _ hx)) (fun hx => h2 (k1 _ hx))
theorem BookAt.keepq {T : Nat → Prop} {w w' : World} {bb hb n many : Nat} {S : Sh} {held : Nat → Bool} (h : BookAt w bb hb S n held many) (k : Kq T w w') (h1 : ¬ T bb) (h2 : ¬ T hb) : BookAt w' bb hb S n held many := by
  obtain ⟨L, k1, k2⟩ := k
  exact h.keep k2 (fun hx => h1 (k1 _ hx)) (fun hx => h2 (k1 _ hx))
theorem ShAt.keepq {T : Nat → Prop} {w w' : World} {b : Nat} {S : Sh} (h : ShAt w b S) (k : Kq T w w') (h1 : ¬ T b) : ShAt w' b S := by
  obtain ⟨L, k1, k2⟩ := k
  exact h.keep k2 (fun hx => h1 (k1 _ hx))
end Go.Proofs.YtoghdhjeopcjkaaDoor
