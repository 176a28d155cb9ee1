/- ExtentsPools: the walk. Conditions: a script that is read. -/
import Derived.Test.YtoghdhjeopcjkaaPools
import Derived.Test.YtoghdhjeopcjkaaFirst
namespace Go.Proofs.Ytoghdhjeopcjkaa
open Go.RowKit Go.Deep

/-- A step of the script, as it lies. -/
structure OpCells (w : World) (g o : Nat) (x : OpV) : Prop where
  c0 : w.cell? ⟨g, o, none⟩ = some (.int .i64 x.kind)
  c1 : w.cell? ⟨g, o + 1, none⟩ = some (.int .i64 x.a)
  c2 : w.cell? ⟨g, o + 2, none⟩ = some (.int .i64 x.b)
  c3 : w.cell? ⟨g, o + 3, none⟩ = some (.int .i64 x.n)
  c4 : w.cell? ⟨g, o + 4, none⟩ = some (.int .i64 x.m)
  c5 : w.cell? ⟨g, o + 5, none⟩ = some x.pg
  c6 : w.cell? ⟨g, o + 6, none⟩ = some x.sp
  c7 : w.cell? ⟨g, o + 7, none⟩ = some (.int .i64 x.s0)
  c8 : w.cell? ⟨g, o + 8, none⟩ = some (.int .i64 x.s1)
  c9 : w.cell? ⟨g, o + 9, none⟩ = some (.int .i64 x.s2)
  c10 : w.cell? ⟨g, o + 10, none⟩ = some (.int .i64 x.s3)
/-- What a step holds: numbers, and slices that are read. -/
structure OpOk (w : World) (x : OpV) : Prop where
  ia : I64 x.a
  ib : I64 x.b
  is1 : I64 x.s1
  pg1 : x.pg.oneCell' = true
  sp1 : x.sp.oneCell' = true
  pgs : ∃ l : List Int, l.length ≤ 17592186044416 ∧ RdIO w x.pg l ∧ (l ≠ [] → ∀ b, x.pg.ownBlock = some b → b < w.heap.size) ∧
    (∀ w', Kp [] w w' → Calls Try.prog 28 #[x.pg] w' fun e w'' => ∃ v', e = .returned v' ∧ OwnI w'' w'.heap.size v' l ∧ Kp [] w' w'')
  sps : ∃ l : Sps, l.length ≤ 8796093022208 ∧ RdSO w x.sp l ∧
    (∀ w', Kp [] w w' → Calls Try.prog 21 #[x.sp] w' fun e w'' => ∃ v', e = .returned v' ∧ Own w'' w'.heap.size v' l ∧ Kp [] w' w'')
theorem pools_any {W w : World} {pb : Nat} {st : Nat → Option Slot} (h : PlayAt w W.heap.size pb st) (k : Kp [] W w) (x : OpV) (hx : OpOk W x) :
    Calls Try.prog 40 #[.pointer (some ⟨pb, 0, none⟩), .agg #[.int .i64 x.kind, .int .i64 x.a, .int .i64 x.b, .int .i64 x.n, .int .i64 x.m, x.pg, x.sp, .int .i64 x.s0, .int .i64 x.s1, .int .i64 x.s2, .int .i64 x.s3]] w (Stepped W.heap.size pb w) := by
  by_cases hm : x.kind = 11 ∨ x.kind = 19
  · obtain ⟨l, h1, h2, h3⟩ := hx.sps
    exact pools_makes h _ _ _ _ _ _ _ _ _ _ _ l hm hx.ia hx.ib hx.is1 (h2.keep k (by simp)) (fun w' k' => h3 w' (k.trans' k')) h1
  · obtain ⟨l, h1, h2, h3, h4⟩ := hx.pgs
    exact pools_rest h _ _ _ _ _ _ _ _ _ _ _ l (by omega) (by omega) hx.ia (h2.keep k (by simp)) (fun w' k' => h4 w' (k.trans' k')) h3 h1

set_option maxHeartbeats 2000000 in
set_option maxRecDepth 100000 in
theorem pools_walk (n cap : Nat) (a : Option Addr) (ops : Nat → OpV) (W : World) (hn : n ≤ 140737488355328) (hrd : n = 0 ∨ ∃ g o, a = some ⟨g, o, none⟩ ∧ ∀ i, i < n → OpCells W g (o + i * 11) (ops i)) (hok : ∀ i, i < n → OpOk W (ops i)) :
    Calls Try.prog 12 #[.slice a n cap] W fun e w' => e = .returned (.bool true) ∧ Kp [] W w' := by
  obtain ⟨Q, hQ⟩ : ∃ Q : Ending → World → Prop, Q = fun e w' => e = .returned (.bool true) ∧ Kp [] W w' := ⟨_, rfl⟩
  rw [← hQ]
  have HQ := hide hQ
  have HRD := hide hrd
  have HOK := hide hok
  clear hQ hrd hok
  go_enter Try.func12, Try.ntmps12
  go_wp2_with fail
  refine (first_any _).mono ?_
  rintro e w1 ⟨rfl, hk1⟩
  go_wp2_with fail
  have hb0 : (w1.alloc (.cells #[.pointer none, .pointer none, .pointer none, .pointer none, .pointer none, .pointer none, .pointer none, .pointer none, .pointer none, .pointer none, .pointer none, .pointer none, .pointer none, .pointer none, .pointer none, .pointer none] 83)).heap[w1.heap.size]? = some (.cells #[.pointer none, .pointer none, .pointer none, .pointer none, .pointer none, .pointer none, .pointer none, .pointer none, .pointer none, .pointer none, .pointer none, .pointer none, .pointer none, .pointer none, .pointer none, .pointer none] 83 (0, 0)) := blk_new _ _
  have hk2 := hk1.alloc (.cells #[.pointer none, .pointer none, .pointer none, .pointer none, .pointer none, .pointer none, .pointer none, .pointer none, .pointer none, .pointer none, .pointer none, .pointer none, .pointer none, .pointer none, .pointer none, .pointer none] 83)
  generalize (w1.alloc (.cells #[.pointer none, .pointer none, .pointer none, .pointer none, .pointer none, .pointer none, .pointer none, .pointer none, .pointer none, .pointer none, .pointer none, .pointer none, .pointer none, .pointer none, .pointer none, .pointer none] 83)) = w2 at hb0 hk2 ⊢
  have hs1 := hk1.size
  have hpl : PlayAt w2 W.heap.size w1.heap.size (fun _ => none) := by
    refine ⟨⟨_, hb0, rfl, fun j hj => ?_⟩, fun j hj s hs => (by cases hs), fun j k hj hk hne s t hs => (by cases hs), hs1⟩
    match j, hj with
    | 0, _ => exact ⟨rfl, rfl⟩
    | 1, _ => exact ⟨rfl, rfl⟩
    | 2, _ => exact ⟨rfl, rfl⟩
    | 3, _ => exact ⟨rfl, rfl⟩
  generalize w1.heap.size = pb at hpl hs1 ⊢
  have HK2 := hide hk2
  have HPL := hide hpl
  clear hk2 hpl
  clear hb0 hk1
  go_loopw [4] (fun i wr => ∃ (k : Nat) (st : Nat → Option Slot), k ≤ n ∧ i = .int .i64 k ∧ PlayAt wr W.heap.size pb st ∧ Kp [] W wr) (fun i _ => n - (intOf i).toNat)
  case atStart => exact ⟨0, _, by omega, rfl, HPL.out, HK2.out⟩
  case round =>
    obtain ⟨k, st, hk, rfl, hpr, hkr⟩ := hrel
    by_cases hlt : k < n
    · rcases HRD.out with hnil | ⟨g, o, rfl, hrd⟩
      · omega
      have hcl := hrd k hlt
      have hko := HOK.out k hlt
      obtain ⟨x, hx⟩ : ∃ x, ops k = x := ⟨_, rfl⟩
      rw [hx] at hcl hko
      have hpg1 := hko.pg1
      have hsp1 := hko.sp1
      obtain ⟨z0, z1, z2, z3, z4, z5, z6, z7, z8, z9, z10⟩ := hcl
      replace z0 := hkr.cell z0 (by simp)
      replace z1 := hkr.cell z1 (by simp)
      replace z2 := hkr.cell z2 (by simp)
      replace z3 := hkr.cell z3 (by simp)
      replace z4 := hkr.cell z4 (by simp)
      replace z5 := hkr.cell z5 (by simp)
      replace z6 := hkr.cell z6 (by simp)
      replace z7 := hkr.cell z7 (by simp)
      replace z8 := hkr.cell z8 (by simp)
      replace z9 := hkr.cell z9 (by simp)
      replace z10 := hkr.cell z10 (by simp)
      have HKO := hide hko
      have HPR := hide hpr
      have HKR := hide hkr
      clear hko hpr hkr
      clear hrd hx
      cases t1 : decide (11 ≤ x.kind) with
      | false =>
        go_wp2_with fail
        go_roundw
        case rel => exact ⟨k + 1, st, by omega, by go_num, HPR.out, HKR.out⟩
        case measure => simp [intOf]; omega
      | true =>
        cases t2 : decide (x.kind ≤ 19) with
        | false =>
          go_wp2_with fail
          go_roundw
          case rel => exact ⟨k + 1, st, by omega, by go_num, HPR.out, HKR.out⟩
          case measure => simp [intOf]; omega
        | true =>
          go_wp2_with fail
          refine (pools_any HPR.out HKR.out x HKO.out).mono ?_
          rintro e w3 ⟨rfl, st', hp3, hkq3⟩
          have hk3 : Kp [] W w3 := ((HKR.out.q.mono (T := fun x => W.heap.size ≤ x) (by simp)).trans hkq3).drop (fun x hx => hx)
          have HP3 := hide hp3
          have HK3 := hide hk3
          clear hp3 hk3
          clear hkq3 z0 z1 z2 z3 z4 z5 z6 z7 z8 z9 z10
          go_wp2_with fail
          go_roundw
          case rel => exact ⟨k + 1, st', by omega, by go_num, HP3.out, HK3.out⟩
          case measure => simp [intOf]; omega
    · obtain rfl : k = n := by omega
      have HKR := hide hkr
      clear hkr
      clear hpr
      go_wp2_with fail
      rw [HQ.out]
      exact ⟨rfl, HKR.out⟩
end Go.Proofs.Ytoghdhjeopcjkaa
