/- The walks of the reference's join and Take. Conditions: the pool lies in memory (RefAt). -/
import Derived.Test.YtoghdhjeopcjkaaRef3
import Derived.Test.YtoghdhjeopcjkaaPlayP
import Derived.Test.YtoghdhjeopcjkaaNearP
namespace Go.Proofs.Ytoghdhjeopcjkaa
open Go.RowKit Go.Deep

/-- What join answers. -/
def JoinPost (w : World) (base : Nat) (v : Value) (l : Sps) (x : Int) (e : Ending) (w' : World) : Prop :=
  ∃ v', e = .returned v' ∧ Own w' base v' (push l x) ∧ Kp v.ownBlock.toList w w' ∧ (v'.ownBlock = v.ownBlock ∨ ∀ b, v'.ownBlock = some b → w.heap.size ≤ b)
set_option maxHeartbeats 1000000 in
theorem join_any {w : World} {base : Nat} {v : Value} {l : Sps} (h : Own w base v l) (x : Int) (hx : 0 ≤ x ∧ x ≤ 4096) (hup : ∀ y ∈ l, 0 ≤ y.1 ∧ 0 ≤ y.2 ∧ y.1 + y.2 ≤ 4096) (hlen : l.length ≤ 4096) (hbase : base ≤ w.heap.size) :
    Calls Try.prog 67 #[v, .int .i64 x] w (JoinPost w base v l x) := by
  obtain ⟨Q, hQ⟩ : ∃ Q, Q = JoinPost w base v l x := ⟨_, rfl⟩
  rw [← hQ]
  obtain ⟨hx1, hx2⟩ := hx
  rcases List.eq_nil_or_concat l with rfl | ⟨r, ⟨f, c⟩, rfl⟩
  · rcases h.cases with ⟨rfl, _⟩ | ⟨g, cap, hv, hg1, hg2, hg3, hg4⟩
    · skip
      have H := hide h
      have HQ := hide hQ
      clear h hQ
      go_enter Try.func67, Try.ntmps67
      go_wp2
      go_quiet (fail)
      go_wp2_with (at_builtin; refine app_span2 rfl _ _ rfl base (.slice none 0 0) [] rfl (H.out.keep (((Kp.refl [] _).drewN _).alloc _) (by simp)) _ x 1 _ rfl (blk_new' (by simp) _) (by simp) (by simp; omega) ?_; intro v' w6 hown6 hgr hwh; have hk6 : Kp (Value.ownBlock (.slice none 0 0)).toList w w6 := (((Kp.refl _ _).drewN _).alloc _).grown hgr (fun y hy => .inl (by rw [hy]; simp)); have HO6 := hide hown6; have HK6 := hide hk6; have HW6 := hide hwh; clear hown6 hgr hwh hk6)
      rw [HQ.out]
      exact ⟨v', rfl, by rw [push_nil]; exact HO6.out, HK6.out, HW6.out.imp id fun h b hb => by have h2 := h.symm.trans hb; simp at h2; omega⟩
    · simp only [List.length_nil] at hv
      subst hv
      have H := hide h
      have HQ := hide hQ
      clear h hQ
      go_enter Try.func67, Try.ntmps67
      go_wp2
      go_quiet (fail)
      go_wp2_with (at_builtin; refine app_span2 rfl _ _ rfl base (.slice (some ⟨g, 0, none⟩) 0 cap) [] rfl (H.out.keep (((Kp.refl [] _).drewN _).alloc _) (by simp)) _ x 1 _ rfl (blk_new' (by simp) _) (by simp) (by simp; omega) ?_; intro v' w6 hown6 hgr hwh; have hk6 : Kp (Value.ownBlock (.slice (some ⟨g, 0, none⟩) 0 cap)).toList w w6 := (((Kp.refl _ _).drewN _).alloc _).grown hgr (fun y hy => .inl (by rw [hy]; simp)); have HO6 := hide hown6; have HK6 := hide hk6; have HW6 := hide hwh; clear hown6 hgr hwh hk6)
      rw [HQ.out]
      exact ⟨v', rfl, by rw [push_nil]; exact HO6.out, HK6.out, HW6.out.imp id fun h b hb => by have h2 := h.symm.trans hb; simp at h2; omega⟩
  · rw [List.concat_eq_append] at *
    have hu := hup (f, c) (by simp)
    obtain ⟨hu1, hu2, hu3⟩ := hu
    simp only at hu1 hu2 hu3
    have hlr : (r ++ [(f, c)]).length = r.length + 1 := by simp
    rcases h.cases with ⟨_, hnil⟩ | ⟨g, cap, hv, hg1, hg2, hg3, hg4⟩
    · simp at hnil
    rw [hlr] at hv hlen
    subst hv
    obtain ⟨d1, d2⟩ := h.cell (by simp) r.length (by simp)
    rw [fr_last] at d1
    rw [ct_last] at d2
    have hfz := h.free (r.length * 2 + 1)
    have i1 : (0 : Int) ≤ (r.length : Int) := by omega
    by_cases he : f + c = x
    · have heq : (f + c == x) = true := by simpa using he
      have ew : IntKind.i64.wrap (f + c) = f + c := by rw [IntKind.wrap_i64]; omega
      have H := hide h
      have HQ := hide hQ
      have HE := hide he
      clear h hQ he
      clear hup hlr
      go_enter Try.func67, Try.ntmps67
      go_wp2
      go_quiet (fail)
      go_wp2
      rw [HQ.out]
      exact ⟨_, rfl, by rw [push_join _ _ _ _ HE.out]; exact (H.out.keep ((Kp.refl [] _).drewN _) (by simp)).raise rfl rfl, ((Kp.refl _ _).drewN _).set (.inl (by simp [Value.ownBlock])) _, .inl rfl⟩
    · have heq : (f + c == x) = false := by simpa using he
      have ew : IntKind.i64.wrap (f + c) = f + c := by rw [IntKind.wrap_i64]; omega
      have H := hide h
      have HQ := hide hQ
      have HE := hide he
      clear h hQ he
      clear hup hlr
      go_enter Try.func67, Try.ntmps67
      go_wp2
      go_quiet (fail)
      go_wp2_with (at_builtin; refine app_span2 rfl _ _ rfl base (.slice (some ⟨g, 0, none⟩) (r.length + 1) cap) (r ++ [(f, c)]) rfl (H.out.keep (((Kp.refl [] _).drewN _).alloc _) (by simp)) _ x 1 _ rfl (blk_new' (by simp) _) (by rw [List.length_append]; simp; omega) (by simp; omega) ?_; intro v' w6 hown6 hgr hwh; have hk6 : Kp (Value.ownBlock (.slice (some ⟨g, 0, none⟩) (r.length + 1) cap)).toList w w6 := (((Kp.refl _ _).drewN _).alloc _).grown hgr (fun y hy => .inl (by rw [hy]; simp)); have HO6 := hide hown6; have HK6 := hide hk6; have HW6 := hide hwh; clear hown6 hgr hwh hk6)
      rw [HQ.out]
      exact ⟨v', rfl, by rw [push_far _ _ _ _ HE.out]; exact HO6.out, HK6.out, HW6.out.imp id fun h b hb => by have h2 := h.symm.trans hb; simp at h2; omega⟩

/-- What is taken behind t pages of the k-th area. -/
def tkn (S : Sh) (on : Nat → Bool) (c n k F t : Nat) : List Nat := (doneTo S on c k ++ pgs on F t).take n
theorem tkn_zero (S : Sh) (on : Nat → Bool) (c n k F : Nat) : tkn S on c n k F 0 = (doneTo S on c k).take n := by simp [tkn, pgs]
theorem tkn_all {S : Sh} {on : Nat → Bool} {c n k F C : Nat} (hF : S.lo ((c + k) % S.cores) = F) (hC : S.lo ((c + k) % S.cores + 1) = F + C) : tkn S on c n k F C = (doneTo S on c (k + 1)).take n := by
  unfold tkn
  rw [done_succ]
  congr 2
  simp only [areaPg]
  rw [hF, hC, Nat.add_sub_cancel_left]
theorem tkn_length (S : Sh) (on : Nat → Bool) (c n k F t : Nat) : (tkn S on c n k F t).length ≤ n := by simp [tkn]; omega
theorem tkn_skip {S : Sh} {on : Nat → Bool} {c n k F t : Nat} (h : on (F + t) = false ∨ ¬ (tkn S on c n k F t).length < n) : tkn S on c n k F (t + 1) = tkn S on c n k F t := by
  unfold tkn at *
  rw [pgs_succ]
  rcases h with h | h
  · rw [h]; simp
  · rw [← List.append_assoc]
    exact take_stop h
theorem tkn_take {S : Sh} {on : Nat → Bool} {c n k F t : Nat} (h1 : on (F + t) = true) (h2 : (tkn S on c n k F t).length < n) : tkn S on c n k F (t + 1) = tkn S on c n k F t ++ [F + t] := by
  unfold tkn at *
  rw [pgs_succ, h1, if_pos rfl, ← List.append_assoc]
  have h3 : (doneTo S on c k ++ pgs on F t).length < n := by
    rw [List.length_take] at h2; omega
  rw [List.take_of_length_le (by rw [List.length_append, List.length_singleton]; omega), List.take_of_length_le (by omega)]
theorem tkn_new {S : Sh} {on : Nat → Bool} {c n k F C t : Nat} (hk : k < S.cores) (hF : S.lo ((c + k) % S.cores) = F) (hC : S.lo ((c + k) % S.cores + 1) = F + C) (ht : t < C) : F + t ∉ tkn S on c n k F t := by
  intro h
  have h2 := List.mem_of_mem_take h
  rw [List.mem_append] at h2
  rcases h2 with h2 | h2
  · by_cases ho : on (F + t) = true
    · exact done_area (on' := on) hk h2 (mem_area.2 ⟨by omega, by omega, ho⟩)
    · rw [mem_done] at h2
      obtain ⟨j, _, hj⟩ := h2
      exact ho (mem_area.1 hj).2.2
  · have := mem_pgs.1 h2; omega
theorem done_in {S : Sh} (ok : S.Ok) {on : Nat → Bool} {c k : Nat} : ∀ i ∈ doneTo S on c k, S.data ≤ i ∧ i < S.pages := by
  intro i hi
  rw [mem_done] at hi
  obtain ⟨j, _, hj⟩ := hi
  have h1 := mem_area.1 hj
  have hm : (c + j) % S.cores < S.cores := Nat.mod_lt _ (by have := ok.c1; omega)
  have h2 := Sh.lo_bd ok ((c + j) % S.cores + 1) (by omega)
  have h3 := Sh.lo_mono (S := S) 0 ((c + j) % S.cores) (by omega)
  rw [Sh.lo_zero] at h3
  omega
theorem tkn_in {S : Sh} (ok : S.Ok) {on : Nat → Bool} {c n k F C t : Nat} (hF : S.lo ((c + k) % S.cores) = F) (hC : S.lo ((c + k) % S.cores + 1) = F + C) (ht : t ≤ C) : ∀ i ∈ tkn S on c n k F t, S.data ≤ i ∧ i < S.pages := by
  intro i hi
  have h2 := List.mem_of_mem_take hi
  rw [List.mem_append] at h2
  rcases h2 with h2 | h2
  · exact done_in ok i h2
  · have h1 := mem_pgs.1 h2
    have hm : (c + k) % S.cores < S.cores := Nat.mod_lt _ (by have := ok.c1; omega)
    have h4 := Sh.lo_bd ok ((c + k) % S.cores + 1) (by omega)
    have h3 := Sh.lo_mono (S := S) 0 ((c + k) % S.cores) (by omega)
    rw [Sh.lo_zero] at h3
    omega
theorem tkn_nodup {S : Sh} {on : Nat → Bool} {c n k F C t : Nat} (_hk : k < S.cores) (_hF : S.lo ((c + k) % S.cores) = F) (_hC : S.lo ((c + k) % S.cores + 1) = F + C) (_ht : t ≤ C) : (tkn S on c n k F t).length ≤ 1024 ∨ 1024 < n := by
  by_cases h : n ≤ 1024
  · exact .inl (Nat.le_trans (tkn_length _ _ _ _ _ _ _) h)
  · exact .inr (by omega)
theorem spansOf_bd {P : List Nat} (h : ∀ i ∈ P, i < 1024) : ∀ y ∈ spansOf P, 0 ≤ y.1 ∧ 0 ≤ y.2 ∧ y.1 + y.2 ≤ 4096 := by
  intro y hy
  obtain ⟨j, hj, e⟩ := List.getElem_of_mem hy
  have h1 := span_all (S := { pages := 1024, inodes := 0, cores := 0, data := 0 }) (P := P) (fun i hi => ⟨Nat.zero_le _, h i hi⟩) j hj
  have e1 : fr (spansOf P) j = y.1 := by simp [fr, hj, e]
  have e2 : ct (spansOf P) j = y.2 := by simp [ct, hj, e]
  rw [e1, e2] at h1
  simp only at h1
  omega
theorem spansOf_snoc (P : List Nat) (x : Nat) : spansOf (P ++ [x]) = push (spansOf P) (x : Int) := by
  rw [spansOf, spansOn_append]; rfl
end Go.Proofs.Ytoghdhjeopcjkaa
