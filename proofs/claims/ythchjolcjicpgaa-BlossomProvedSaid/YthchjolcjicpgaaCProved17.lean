/- BlossomProved, as a contract. -/
import Derived.Test.YthchjolcjicpgaaCKeeps17
namespace Go.Proofs.Ythchjolcjicpgaa
open Go.HW Blo Odd

theorem nop1_c {h : Heap} {r r1 n : Nat} {gx cx : Value} {es : List RE} {ml cl : List Nat} (c0 : h.cell r 0 = some (.int .i64 n)) (c1 : h.cell r 1 = some gx) (c3 : h.cell r1 0 = some cx)
    (hg : ES h gx es) (hc : IL h cx cl) (f : Fine n es) (R : Rise n cl) (C : Counts n es ml cl) :
    HCalls Try.prog 73 #[.pointer (some ⟨r, 0, none⟩), .pointer (some ⟨r1, 0, none⟩)] h fun e h' => Le h h' ∧ ((2 * ml.length < n ∧ e = .returned (.tuple #[])) ∨ (¬ 2 * ml.length < n ∧ e = .panicked (refusal 221))) := by
  apply H73
  unfold F73
  have n1 := f.n1
  have m1 := f.m
  simp [c0, c1]
  refine CALL_mk en47 (right_ok hg f) ?_
  rintro e h1 ⟨rfl, l1⟩
  obtain ⟨Ac, cc, rfl, _⟩ := id hc
  simp [l1.cell _ _ _ c0, l1.cell _ _ _ c1, l1.cell _ _ _ c3]
  refine CALL_mk en50 (marked_ok (hc.le l1) R (by omega)) ?_
  rintro e h3 ⟨b, rfl, l3, _, b3⟩
  have L3 := l1.trans l3
  simp only [endR_ret]
  refine ⟨l3, fun _ => CALL_mk en62 (odd_c (hg.le L3) f b3) ?_⟩
  rintro e h4 ⟨l4, seen, cs, rfl, ps, all⟩
  have L4 := L3.trans l4
  have hco := C _ seen cs (fun v => rfl) ps all
  simp only [endR_ret]
  refine ⟨l4, fun _ => ?_⟩
  simp
  by_cases hlt : 2 * ml.length < n
  · have hd : cl.length < oddN cs := by omega
    simp only [hd, decide_true]
    refine need_t _ _ ?_
    exact fun _ => ⟨L4, hlt⟩
  · have hd : ¬ cl.length < oddN cs := by omega
    simp only [hd, decide_false]
    refine CALL_mk en51 (need_c h4 false 221) ?_
    rintro e h5 ⟨rfl, ⟨hf, _⟩ | ⟨_, rfl⟩⟩
    · cases hf
    · exact ⟨L4, by omega, rfl⟩

theorem nop_c {h : Heap} {n : Nat} {gx cx : Value} {es : List RE} {ml cl : List Nat} (hg : ES h gx es) (hc : IL h cx cl) (f : Fine n es) (R : Rise n cl) (C : Counts n es ml cl) :
    HCalls Try.prog 33 #[.agg #[.int .i64 n, gx], cx] h fun e h' => Le h h' ∧ ∃ c : Int, e = .returned (.int .i64 c) ∧ (c = 0 ↔ 2 * ml.length < n) := by
  apply H33
  unfold F33
  intro r hr r1 hr1
  obtain ⟨Ac, cc, hcx, _⟩ := id hc
  have vc : Value.cells cx = #[cx] := by rw [hcx]; rfl
  have l1 : Le h ((h.new r (Value.cells (.agg #[.int .i64 n, gx])) 25).new r1 (Value.cells cx) 26) := (Heap.le_new hr _ _).new hr1 _ _
  have n1 : r ≠ r1 := hr1.nei (x := (25, 2)) (by simp)
  obtain ⟨S, hS⟩ : ∃ S, S = (h.new r (Value.cells (.agg #[.int .i64 n, gx])) 25).new r1 (Value.cells cx) 26 := ⟨_, rfl⟩
  have c0 : S.cell r 0 = some (.int .i64 n) := by rw [hS]; simp [n1]
  have c1 : S.cell r 1 = some gx := by rw [hS]; simp [n1]
  have c3 : S.cell r1 0 = some cx := by rw [hS]; simp [vc]
  rw [← hS] at l1 ⊢
  clear hS
  refine CALL_mk en45 (look_c (Q := fun c h' => Le S h' ∧ (c = 0 ↔ 2 * ml.length < n)) en73 fun q hq => ?_) ?_
  · have l3 := Heap.le_new hq #[.int .i64 0] 27
    have L := l1.trans l3
    refine (nop1_c (l3.cell _ _ _ c0) (l3.cell _ _ _ c1) (l3.cell _ _ _ c3) (hg.le L) (hc.le L) f R C).mono ?_
    rintro e h' ⟨l4, he⟩
    refine ⟨by simpa using l4.info q (27, 1) (by simp), l4.cell q 0 _ (by simp), ?_⟩
    have hD := le_drop (b := q) (l3.trans l4) hq
    rcases he with ⟨hlt, rfl⟩ | ⟨hlt, rfl⟩
    · exact ⟨0, .inl ⟨rfl, _, rfl⟩, fun h2 l5 => ⟨hD.trans l5, by simp [hlt]⟩⟩
    · exact ⟨221, .inr rfl, fun h2 l5 => ⟨hD.trans l5, by simp; omega⟩⟩
  · rintro e h' ⟨c, rfl, l3, hc⟩
    exact ⟨l1.trans l3, c, rfl, hc⟩

/-- With two sides as many edges as there. -/
theorem SolvedB.two {n left : Nat} {es : List RE} {t : Fine n es} {t2 : Two n left es} {ml cl ml2 cl2 : List Nat} (s : SolvedB (toB n es t) ml cl) (s2 : Pair.Solved (toG n left es t2) ml2 cl2) : ml2.length = ml.length := by
  obtain ⟨M1, R1, _⟩ := s.large
  have lo : ∀ i, i < es.length → ∃ e, es[i]? = some e ∧ (toG n left es t2).L i = loE e ∧ (toG n left es t2).R i = hiE e ∧ loE e < left ∧ left ≤ hiE e ∧ hiE e < n ∧ ((uE e = loE e ∧ vE e = hiE e) ∨ (uE e = hiE e ∧ vE e = loE e)) := fun i hi => by
    have he := List.getElem?_eq_getElem hi
    obtain ⟨a1, a2, a3, a4⟩ := t2.low he
    refine ⟨_, he, atE_of he, atE_of he, a1, a2, a3, ?_⟩
    unfold uE vE
    omega
  refine Nat.le_antisymm ?_ ?_
  · -- the matching of the two sides, as one in the graph
    let b : Nat → Option Nat := fun v => ml2.find? fun i => decide (atE uE es i = v ∨ atE vE es i = v)
    have hb : ∀ v i, b v = some i → i ∈ ml2 ∧ (atE uE es i = v ∨ atE vE es i = v) := fun v i h => ⟨List.mem_of_find?_eq_some h, by simpa using List.find?_some h⟩
    have uni : ∀ i j v, i ∈ ml2 → j ∈ ml2 → (atE uE es i = v ∨ atE vE es i = v) → (atE uE es j = v ∨ atE vE es j = v) → i = j := fun i j v hi hj h1 h2 => by
      obtain ⟨e, he, k1, k2, k3, k4, k5, k6⟩ := lo i (s2.mlt i hi)
      obtain ⟨f, hf, q1, q2, q3, q4, q5, q6⟩ := lo j (s2.mlt j hj)
      rw [atE_of he, atE_of he] at h1
      rw [atE_of hf, atE_of hf] at h2
      refine s2.mone i j hi hj ?_
      rw [k1, k2, q1, q2]
      omega
    have hb2 : ∀ v i, i ∈ ml2 → (atE uE es i = v ∨ atE vE es i = v) → b v = some i := fun v i hi h => by
      cases hv : b v with
      | none =>
        have := List.find?_eq_none.1 hv i hi
        simp [h] at this
      | some j =>
        obtain ⟨h1, h2⟩ := hb v j hv
        rw [uni i j v hi h1 h h2]
    have ed : ∀ v i, i ∈ ml2 → (atE uE es i = v ∨ atE vE es i = v) → ∃ w, (toB n es t).E i v w ∧ (atE uE es i = w ∨ atE vE es i = w) := fun v i hi h => by
      obtain ⟨e, he, k1, k2, k3, k4, k5, k6⟩ := lo i (s2.mlt i hi)
      have hlt := s2.mlt i hi
      have hne : atE uE es i ≠ atE vE es i := by rw [atE_of he, atE_of he]; omega
      rcases h with h | h
      · exact ⟨atE vE es i, toB_E hlt (by rw [← h]; exact hne) (.inl ⟨h, rfl⟩), .inr rfl⟩
      · exact ⟨atE uE es i, toB_E hlt (by rw [← h]; exact hne.symm) (.inr ⟨rfl, h⟩), .inl rfl⟩
    have M : Mat (toB n es t) b := by
      refine ⟨fun v i _ h => ?_⟩
      obtain ⟨h1, h2⟩ := hb v i h
      obtain ⟨w, e, h3⟩ := ed v i h1 h2
      rw [e.ot]
      exact ⟨e, hb2 w i h1 h3⟩
    have h1 := s.best M
    have h2 := matched_count M
    have hn : (toB n es t).n = n := rfl
    rw [hn] at h2
    have h3 : ml2.length ≤ (takenB (toB n es t) b n).length := by
      refine Pair.inj_len id _ _ (Pair.nodup_of_lt s2.msort) (fun i hi => takenB_mem.2 ?_) fun _ _ _ _ h => h
      obtain ⟨e, he, k1, k2, k3, k4, k5, k6⟩ := lo i (s2.mlt i hi)
      have hlo : atE uE es i = loE e ∨ atE vE es i = loE e := by rw [atE_of he, atE_of he]; omega
      obtain ⟨w, e1, h3⟩ := ed (loE e) i hi hlo
      have hbl := hb2 (loE e) i hi hlo
      refine ⟨loE e, by omega, hbl, ?_⟩
      rw [mate_some hbl, e1.ot]
      rw [atE_of he, atE_of he] at h3
      have := e1.ne
      omega
    omega
  · -- each taken edge is covered
    rw [← s2.len]
    have M1' : ∀ i, i ∈ ml → i < es.length := M1.rise.2
    obtain ⟨by_, re, Mb, _, _, hp, _⟩ := s
    let f : Nat → Nat := fun i => if atE loE es i ∈ cl2 then atE loE es i else atE hiE es i
    have hf : ∀ i, i ∈ ml → f i ∈ cl2 ∧ (f i = atE uE es i ∨ f i = atE vE es i) := fun i hi => by
      obtain ⟨e, he, k1, k2, k3, k4, k5, k6⟩ := lo i (M1' i hi)
      have hc := s2.cov i (M1' i hi)
      have e1 : atE loE es i = loE e := atE_of he
      have e2 : atE hiE es i = hiE e := atE_of he
      rw [k1, k2] at hc
      simp only [f]
      have e3 : atE uE es i = uE e := atE_of he
      have e4 : atE vE es i = vE e := atE_of he
      rw [e1, e2, e3, e4]
      split
      · next h => exact ⟨h, by omega⟩
      · next h => exact ⟨hc.resolve_left h, by omega⟩
    refine Pair.inj_len f _ _ (Pair.nodup_of_lt M1.rise.1) (fun i hi => (hf i hi).1) fun i j hi hj he => ?_
    have key : ∀ i, i ∈ ml → by_ (f i) = some i := fun i hi => (taken_ends (v := 0) Mb (hp.mem_iff.1 hi) ((hf i hi).2.imp Eq.symm Eq.symm)).1
    have k1 := key i hi
    rw [he, key j hj] at k1
    cases k1; rfl

theorem proved17_c {h : Heap} {n left : Int} {gx : Value} {es : List RE} (hg : ES h gx es) : HCalls Try.prog 12 #[.agg #[.int .i64 n, gx], .int .i64 left] h fun e _ => e = .returned (.bool true) := by
  apply H12
  unfold F12
  intro r hr
  have l1 := Heap.le_new hr (Value.cells (.agg #[.int .i64 n, gx])) 25
  have c0 : (h.new r (Value.cells (.agg #[.int .i64 n, gx])) 25).cell r 0 = some (.int .i64 n) := by simp
  have c1 : (h.new r (Value.cells (.agg #[.int .i64 n, gx])) 25).cell r 1 = some gx := by simp
  generalize h.new r (Value.cells (.agg #[.int .i64 n, gx])) 25 = S at l1 c0 c1
  have hg := hg.le l1
  refine CALL_mk en22 (awake17_c S) ?_
  rintro e h1 ⟨l2, rfl⟩
  simp [l2.cell _ _ _ c0, l2.cell _ _ _ c1]
  refine CALL_mk en23 (solveB_c (hg.le l2)) ?_
  rintro e h2 ⟨l3, s1⟩
  have L3 := l2.trans l3
  rcases s1 with ⟨c, a, hc, hs, rfl⟩ | ⟨n', t, xm, xc, ml, cl, bm, bc, rfl, rfl, gm, gc, hne, sol⟩
  · simp [hc]
  · obtain ⟨M1, R1, C1⟩ := sol.large
    have im := gm.il
    have ic := gc.il
    have hml := M1.rise.len
    have hm4 := t.m
    have hn1 := t.n1
    obtain ⟨A1, k1, hx1, _⟩ := id im
    have v1 : lenV T 26 xm = some (.int .i64 ml.length) := by rw [hx1]; simp
    simp [L3.cell _ _ _ c0, L3.cell _ _ _ c1]
    refine CALL_mk en24 (largest_ok (hg.le L3) im ic t M1 R1 C1) ?_
    rintro e h3 ⟨rfl, l4⟩
    have L4 := L3.trans l4
    simp
    refine JN.mk fun J hJ => ?_
    simp [v1, L4.cell _ _ _ c0, L4.cell _ _ _ c1]
    refine CALL_mk en33 (nop_c (hg.le L4) (ic.le l4) t R1 C1) ?_
    rintro e h4 ⟨l5, c, rfl, hc⟩
    have L5 := L4.trans l5
    have w2 : IntKind.i64.wrap (2 * (ml.length : Int)) = 2 * (ml.length : Int) := wrap_in (by omega) (by omega)
    simp only [endR_ret]
    refine ⟨l5, fun _ => ?_⟩
    have hJf : J (.bool false) h4 := by
      rw [hJ]
      simp [L5.cell _ _ _ c0, L5.cell _ _ _ c1]
      refine CALL_mk en16 (solve_c (hg.le L5)) ?_
      rintro e h5 ⟨l6, s2⟩
      rcases s2 with ⟨c', a', hc', hs', rfl⟩ | ⟨_, hk, _⟩ | ⟨_, n2, left2, t2, xm2, xc2, ml2, cl2, bm2, bc2, hn, hl, rfl, gm2, gc2, _, sol2⟩
      · simp [hc']
      · omega
      · obtain rfl : n' = n2 := by omega
        obtain ⟨A2, k2, hx2, _⟩ := gm2.il
        have v2 : lenV T 26 xm2 = some (.int .i64 ml2.length) := by rw [hx2]; simp
        simp [v2, sol.two sol2]
    clear hJ
    by_cases hlt : 2 * ml.length < n'
    · have h0 : c = 0 := hc.2 hlt
      have : (2 * (ml.length : Int)) < (n' : Int) := by omega
      simp [w2, L4.cell _ _ _ c0, h0, this]
      exact hJf
    · have h0 : ¬ c = 0 := fun h => hlt (hc.1 h)
      have : ¬ (2 * (ml.length : Int)) < (n' : Int) := by omega
      simp [w2, L4.cell _ _ _ c0, h0, this]
      exact hJf

end Go.Proofs.Ythchjolcjicpgaa
