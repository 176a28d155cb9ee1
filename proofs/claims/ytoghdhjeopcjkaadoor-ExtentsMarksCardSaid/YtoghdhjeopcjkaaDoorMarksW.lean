
/- ExtentsMarks: the walk. Conditions: a script that is read; the library's table lies in block 0. -/
import Derived.Test.YtoghdhjeopcjkaaDoorMarksS3
namespace Go.Proofs.YtoghdhjeopcjkaaDoor
open Go.RowKit Go.Deep

/-- A step of the laws' scripts, as a value. -/
structure OpV where
  kind : Int
  a : Int
  b : Int
  n : Int
  m : Int
  pg : Value
  sp : Value
  s0 : Int
  s1 : Int
  s2 : Int
  s3 : Int
/-- A step of the script, as it lies. -/
structure OpCells (w : World) (g o : Nat) (x : OpV) : Prop where
  c0 : w.cell? ⟨g, o, none⟩ = some (.int .i64 x.kind)
  c1 : w.cell? ⟨g, o + 1, none⟩ = some (.int .i64 x.a)
  c2 : w.cell? ⟨g, o + 2, none⟩ = some (.int .i64 x.b)
  c3 : w.cell? ⟨g, o + 3, none⟩ = some (.int .i64 x.n)
  c4 : w.cell? ⟨g, o + 4, none⟩ = some (.int .i64 x.m)
  c5 : w.cell? ⟨g, o + 5, none⟩ = some x.pg
  c6 : w.cell? ⟨g, o + 6, none⟩ = some x.sp
  c7 : w.cell? ⟨g, o + 7, none⟩ = some (.int .i64 x.s0)
  c8 : w.cell? ⟨g, o + 8, none⟩ = some (.int .i64 x.s1)
  c9 : w.cell? ⟨g, o + 9, none⟩ = some (.int .i64 x.s2)
  c10 : w.cell? ⟨g, o + 10, none⟩ = some (.int .i64 x.s3)
/-- What a step holds: numbers, and slices. -/
structure OpOk (x : OpV) : Prop where
  ia : I64 x.a
  ib : I64 x.b
  pg1 : x.pg.oneCell' = true
  sp1 : x.sp.oneCell' = true
section
variable {w : World} {base pb : Nat} {st : Nat → Option MSlot}
set_option maxHeartbeats 2000000 in
set_option maxRecDepth 100000 in
theorem marks_none (h : MPlayAt w base pb st) (kind a b n m s0 s1 s2 s3 : Int) (pg sp : Value) (hk : kind ≠ 1) (hb : I64 b) {ja : Nat} (hja : ja < 4) (ea : bits .and .i64 a 3 = (ja : Int)) (hst : st ja = none) :
    Calls Tryd.prog 6 #[.pointer (some ⟨pb, 0, none⟩), .agg #[.int .i64 kind, .int .i64 a, .int .i64 b, .int .i64 n, .int .i64 m, pg, sp, .int .i64 s0, .int .i64 s1, .int .i64 s2, .int .i64 s3]] w (MStepped base pb w) := by
  obtain ⟨Q, hQ⟩ : ∃ Q, Q = MStepped base pb w := ⟨_, rfl⟩
  rw [← hQ]
  have k1 : (kind == 1) = false := by simpa using hk
  have hlt := h.lt
  have hpb : pb ≠ w.heap.size := by omega
  have hcy := h.cy hja
  have hcx := h.cx hja
  rw [hst] at hcy hcx
  simp only [ptrM, ptrR, Option.map_none] at hcy hcx
  have hja1 : (0 : Int) ≤ (ja : Int) := by omega
  have hja2 : (ja : Int) < 4 := by omega
  obtain ⟨jb, hjb, eb⟩ := slot_of b hb
  have H := hide h
  have HQ := hide hQ
  have HK := hide hk
  have HB := hide hb
  have HST := hide hst
  clear h hQ hk hb hst
  go_enter Tryd.func6, Tryd.ntmps6
  go_wp2_with fail
  rw [HQ.out]
  exact ⟨rfl, st, H.out.keep0 ((Kp.refl _ _).alloc _), (((Kp.refl [] _).alloc _).q).mono (by simp)⟩
end
theorem marks_any {W w : World} {pb : Nat} {st : Nat → Option MSlot} (h : MPlayAt w W.heap.size pb st) (k : Kp [] W w) (x : OpV) (hx : OpOk x) :
    Calls Tryd.prog 6 #[.pointer (some ⟨pb, 0, none⟩), .agg #[.int .i64 x.kind, .int .i64 x.a, .int .i64 x.b, .int .i64 x.n, .int .i64 x.m, x.pg, x.sp, .int .i64 x.s0, .int .i64 x.s1, .int .i64 x.s2, .int .i64 x.s3]] w (MStepped W.heap.size pb w) := by
  by_cases h1 : x.kind = 1
  · exact marks_new h _ _ _ _ _ _ _ _ _ _ _ h1 hx.ia hx.ib k.size
  obtain ⟨ja, hja, ea⟩ := slot_of x.a hx.ia
  cases hst : st ja with
  | none => exact marks_none h _ _ _ _ _ _ _ _ _ _ _ h1 hx.ib hja ea hst
  | some s =>
    by_cases h2 : x.kind = 2
    · exact marks_set h _ _ _ _ _ _ _ _ _ _ _ h2 hx.ia hx.ib hja ea hst
    by_cases h3 : x.kind = 3
    · exact marks_has h _ _ _ _ _ _ _ _ _ _ _ h3 hx.ia hx.ib hja ea hst
    by_cases h4 : x.kind = 4
    · exact marks_count h _ _ _ _ _ _ _ _ _ _ _ h4 hx.ia hx.ib hja ea hst
    by_cases h5 : x.kind = 5
    · exact marks_merge h _ _ _ _ _ _ _ _ _ _ _ h5 hx.ia hx.ib hja ea hst
    · exact marks_holes h _ _ _ _ _ _ _ _ _ _ _ ⟨h1, h2, h3, h4, h5⟩ hx.ia hx.ib hja ea hst

set_option maxHeartbeats 2000000 in
set_option maxRecDepth 100000 in
theorem marks_walk (n cap : Nat) (a : Option Addr) (ops : Nat → OpV) (W : World) (hn : n ≤ 140737488355328) (hrd : n = 0 ∨ ∃ g o, a = some ⟨g, o, none⟩ ∧ ∀ i, i < n → OpCells W g (o + i * 11) (ops i)) (hok : ∀ i, i < n → OpOk (ops i)) (hT : TabOk W) (hpos : 0 < W.heap.size) :
    Calls Tryd.prog 3 #[.slice a n cap] W fun e w' => e = .returned (.bool true) ∧ Kp [] W w' := by
  obtain ⟨Q, hQ⟩ : ∃ Q : Ending → World → Prop, Q = fun e w' => e = .returned (.bool true) ∧ Kp [] W w' := ⟨_, rfl⟩
  rw [← hQ]
  have HQ := hide hQ
  have HRD := hide hrd
  have HOK := hide hok
  have HT := hide hT
  clear hQ hrd hok hT
  go_enter Tryd.func3, Tryd.ntmps3
  go_wp2_with fail
  refine (first_any _).mono ?_
  rintro e w1 ⟨rfl, hk1⟩
  go_wp2_with fail
  have hb0 : (w1.alloc (.cells #[.pointer none, .pointer none, .pointer none, .pointer none, .pointer none, .pointer none, .pointer none, .pointer none, .pointer none, .pointer none, .pointer none, .pointer none, .pointer none, .pointer none, .pointer none, .pointer none] 34)).heap[w1.heap.size]? = some (.cells #[.pointer none, .pointer none, .pointer none, .pointer none, .pointer none, .pointer none, .pointer none, .pointer none, .pointer none, .pointer none, .pointer none, .pointer none, .pointer none, .pointer none, .pointer none, .pointer none] 34 (0, 0)) := blk_new _ _
  have hk2 := hk1.alloc (.cells #[.pointer none, .pointer none, .pointer none, .pointer none, .pointer none, .pointer none, .pointer none, .pointer none, .pointer none, .pointer none, .pointer none, .pointer none, .pointer none, .pointer none, .pointer none, .pointer none] 34)
  generalize (w1.alloc (.cells #[.pointer none, .pointer none, .pointer none, .pointer none, .pointer none, .pointer none, .pointer none, .pointer none, .pointer none, .pointer none, .pointer none, .pointer none, .pointer none, .pointer none, .pointer none, .pointer none] 34)) = w2 at hb0 hk2 ⊢
  have hs1 := hk1.size
  have hpl : MPlayAt w2 W.heap.size w1.heap.size (fun _ => none) := by
    refine ⟨⟨_, hb0, rfl, fun j hj => ?_⟩, fun j hj s hs => (by cases hs), fun j k hj hk hne s t hs => (by cases hs), hs1, hpos, HT.out.keep hk2 (by simp)⟩
    match j, hj with
    | 0, _ => exact ⟨rfl, rfl⟩
    | 1, _ => exact ⟨rfl, rfl⟩
    | 2, _ => exact ⟨rfl, rfl⟩
    | 3, _ => exact ⟨rfl, rfl⟩
  generalize w1.heap.size = pb at hpl hs1 ⊢
  have HK2 := hide hk2
  have HPL := hide hpl
  clear hk2 hpl
  clear hb0 hk1
  go_loopw [4] (fun i wr => ∃ (k : Nat) (st : Nat → Option MSlot), k ≤ n ∧ i = .int .i64 k ∧ MPlayAt wr W.heap.size pb st ∧ Kp [] W wr) (fun i _ => n - (intOf i).toNat)
  case atStart => exact ⟨0, _, by omega, rfl, HPL.out, HK2.out⟩
  case round =>
    obtain ⟨k, st, hk, rfl, hpr, hkr⟩ := hrel
    by_cases hlt : k < n
    · rcases HRD.out with hnil | ⟨g, o, rfl, hrd⟩
      · omega
      have hcl := hrd k hlt
      have hko := HOK.out k hlt
      obtain ⟨x, hx⟩ : ∃ x, ops k = x := ⟨_, rfl⟩
      rw [hx] at hcl hko
      have hpg1 := hko.pg1
      have hsp1 := hko.sp1
      obtain ⟨z0, z1, z2, z3, z4, z5, z6, z7, z8, z9, z10⟩ := hcl
      replace z0 := hkr.cell z0 (by simp)
      replace z1 := hkr.cell z1 (by simp)
      replace z2 := hkr.cell z2 (by simp)
      replace z3 := hkr.cell z3 (by simp)
      replace z4 := hkr.cell z4 (by simp)
      replace z5 := hkr.cell z5 (by simp)
      replace z6 := hkr.cell z6 (by simp)
      replace z7 := hkr.cell z7 (by simp)
      replace z8 := hkr.cell z8 (by simp)
      replace z9 := hkr.cell z9 (by simp)
      replace z10 := hkr.cell z10 (by simp)
      have HKO := hide hko
      have HPR := hide hpr
      have HKR := hide hkr
      clear hko hpr hkr
      clear hrd hx
      cases t1 : decide (1 ≤ x.kind) with
      | false =>
        go_wp2_with fail
        go_roundw
        case rel => exact ⟨k + 1, st, by omega, by go_num, HPR.out, HKR.out⟩
        case measure => simp [intOf]; omega
      | true =>
        cases t2 : decide (x.kind ≤ 6) with
        | false =>
          go_wp2_with fail
          go_roundw
          case rel => exact ⟨k + 1, st, by omega, by go_num, HPR.out, HKR.out⟩
          case measure => simp [intOf]; omega
        | true =>
          go_wp2_with fail
          refine (marks_any HPR.out HKR.out x HKO.out).mono ?_
          rintro e w3 ⟨rfl, st', hp3, hkq3⟩
          have hk3 : Kp [] W w3 := ((HKR.out.q.mono (T := fun x => W.heap.size ≤ x) (by simp)).trans hkq3).drop (fun x hx => hx)
          have HP3 := hide hp3
          have HK3 := hide hk3
          clear hp3 hk3
          clear hkq3 z0 z1 z2 z3 z4 z5 z6 z7 z8 z9 z10
          go_wp2_with fail
          go_roundw
          case rel => exact ⟨k + 1, st', by omega, by go_num, HP3.out, HK3.out⟩
          case measure => simp [intOf]; omega
    · obtain rfl : k = n := by omega
      have HKR := hide hkr
      clear hkr
      clear hpr
      go_wp2_with fail
      rw [HQ.out]
      exact ⟨rfl, HKR.out⟩
end Go.Proofs.YtoghdhjeopcjkaaDoor
