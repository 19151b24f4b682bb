/- PairProved, as a contract. -/
import Derived.Test.YthchjolcjicpgaaCCovered
import Derived.Test.YthchjolcjicpgaaCAwake
namespace Go.Proofs.Ythchjolcjicpgaa
open Go.HW Pair

theorem deg_one_le {es : List RE} {v : Nat} : ∀ {l : List Nat}, l.Nodup → (∀ i e, i ∈ l → es[i]? = some e → endsAt e v ≤ 1) → (∀ i j e f, i ∈ l → j ∈ l → es[i]? = some e → es[j]? = some f → 0 < endsAt e v → 0 < endsAt f v → i = j) → deg es l v ≤ 1 := by
  intro l
  induction l with
  | nil => intro _ _ _; simp [deg]
  | cons a l ih =>
    intro hn h1 h2
    have hn' := List.nodup_cons.1 hn
    have e : deg es (a :: l) v = deg es [a] v + deg es l v := deg_app es [a] l v
    have i1 := ih hn'.2 (fun i e hi => h1 i e (by simp [hi])) fun i j e f hi hj => h2 i j e f (by simp [hi]) (by simp [hj])
    cases ha : es[a]? with
    | none =>
      have : deg es [a] v = 0 := by simp [deg, ha]
      omega
    | some x =>
      have ea := deg_one ha v
      have := h1 a x (by simp) ha
      by_cases hz : endsAt x v = 0
      · omega
      · have : deg es l v = 0 := by
          have key : ∀ l' : List Nat, (∀ i, i ∈ l' → i ∈ l) → deg es l' v = 0 := by
            intro l'
            induction l' with
            | nil => intro _; simp [deg]
            | cons b l' ih' =>
              intro hs
              have e' : deg es (b :: l') v = deg es [b] v + deg es l' v := deg_app es [b] l' v
              have := ih' fun i hi => hs i (by simp [hi])
              cases hb : es[b]? with
              | none =>
                have : deg es [b] v = 0 := by simp [deg, hb]
                omega
              | some y =>
                have eb := deg_one hb v
                by_cases hy : endsAt y v = 0
                · omega
                · have := h2 a b x y (by simp) (by simp [hs b (by simp)]) ha hb (by omega) (by omega)
                  subst this
                  exact absurd (hs a (by simp)) hn'.1
          exact key l fun _ h => h
        omega

theorem solved_mtc {n left : Nat} {es : List RE} {t : Two n left es} {ml cl : List Nat} (s : Solved (toG n left es t) ml cl) : Mtc n es ml (fun _ => 1) ∧ Rise n cl ∧ Covs es cl ∧ ml.length = cl.length := by
  have hlt : ∀ i, i ∈ ml → i < es.length := s.mlt
  refine ⟨⟨⟨s.msort, hlt⟩, fun i e hi he hne => ?_, fun v hv => ?_⟩, ⟨s.csort, s.clt⟩, fun i e he => ?_, s.len.symm⟩
  · have := t.ok i e he
    rw [hne] at this
    omega
  · have h1 : deg es ml v ≤ 1 := by
      refine deg_one_le (nodup_of_lt s.msort) (fun i e hi he => ?_) fun i j e f hi hj he hf h1 h2 => ?_
      · have := t.ok i e he
        unfold endsAt
        split <;> split <;> omega
      · obtain ⟨a1, a2, a3, a4⟩ := t.low he
        obtain ⟨b1, b2, b3, b4⟩ := t.low hf
        refine s.mone i j hi hj ?_
        have e1 : (toG n left es t).L i = loE e := atE_of he
        have e2 : (toG n left es t).R i = hiE e := atE_of he
        have e3 : (toG n left es t).L j = loE f := atE_of hf
        have e4 : (toG n left es t).R j = hiE f := atE_of hf
        rw [e1, e2, e3, e4]
        have k1 : e.u = (v : Int) ∨ e.v = (v : Int) := by
          unfold endsAt at h1
          split at h1
          · left; assumption
          · split at h1
            · right; assumption
            · omega
        have k2 : f.u = (v : Int) ∨ f.v = (v : Int) := by
          unfold endsAt at h2
          split at h2
          · left; assumption
          · split at h2
            · right; assumption
            · omega
        omega
    omega
  · obtain ⟨a1, a2, a3, a4⟩ := t.low he
    have hi := (List.getElem?_eq_some_iff.1 he).1
    have := s.cov i hi
    have e1 : (toG n left es t).L i = loE e := atE_of he
    have e2 : (toG n left es t).R i = hiE e := atE_of he
    rw [e1, e2] at this
    rcases a4 with ⟨b1, b2⟩ | ⟨b1, b2⟩
    · rw [b1, b2]; simp only [Int.toNat_natCast]; exact .inr this
    · rw [b1, b2]; simp only [Int.toNat_natCast]; exact .inr this.symm

theorem proved_c {h : Heap} {n left : Int} {gx : Value} {es : List RE} (hg : ES h gx es) : HCalls Try.prog 4 #[.agg #[.int .i64 n, gx], .int .i64 left] h fun e _ => e = .returned (.bool true) := by
  apply H4
  unfold F4
  intro r hr
  have l1 := Heap.le_new hr (Value.cells (.agg #[.int .i64 n, gx])) 25
  have c0 : (h.new r (Value.cells (.agg #[.int .i64 n, gx])) 25).cell r 0 = some (.int .i64 n) := by simp
  have c1 : (h.new r (Value.cells (.agg #[.int .i64 n, gx])) 25).cell r 1 = some gx := by simp
  generalize h.new r (Value.cells (.agg #[.int .i64 n, gx])) 25 = S at l1 c0 c1
  have hg := hg.le l1
  refine CALL_mk en15 (awake15_c S) ?_
  rintro e h1 ⟨l2, rfl⟩
  simp [l2.cell _ _ _ c0, l2.cell _ _ _ c1]
  refine CALL_mk en16 (solve_c (hg.le l2)) ?_
  rintro e h2 ⟨l3, s1⟩
  have L3 := l2.trans l3
  have fin : ∀ (q1 q2 q3 : Value) (e1 : e = .returned (.tuple #[q1, q2, q3])), True := fun _ _ _ _ => trivial
  rcases s1 with ⟨c, a, hc, hs, rfl⟩ | ⟨_, hk, _⟩ | ⟨_, n', left', t, xm, xc, ml, cl, bm, bc, rfl, rfl, rfl, gm, gc, _, sol⟩
  · simp [L3.cell _ _ _ c0, L3.cell _ _ _ c1]
    refine CALL_mk en16 (solve_c (hg.le L3)) ?_
    rintro e h3 ⟨l4, s2⟩
    rcases s2 with ⟨c', a', hc', hs', rfl⟩ | ⟨t, _⟩ | ⟨_, n', left', t, _, _, _, _, _, _, rfl, rfl, _⟩
    · obtain ⟨rfl, rfl⟩ := hs.same hs'
      simp [JN, hc]
    · exact absurd (hs.two.2 t) hc
    · exact absurd (hs.two.2 t) hc
  · omega
  · simp [L3.cell _ _ _ c0, L3.cell _ _ _ c1]
    refine CALL_mk en16 (solve_c (hg.le L3)) ?_
    rintro e h3 ⟨l4, s2⟩
    have L4 := L3.trans l4
    rcases s2 with ⟨c', a', hc', hs', rfl⟩ | ⟨_, hk, _⟩ | ⟨_, n2, left2, t2, xm2, xc2, ml2, cl2, bm2, bc2, hn, hl, rfl, gm2, gc2, _, sol2⟩
    · exact absurd (hs'.two.2 t) hc'
    · omega
    · obtain rfl : n' = n2 := by omega
      obtain rfl : left' = left2 := by omega
      have hlen := sol.same sol2
      obtain ⟨M1, R1, C1, E1⟩ := solved_mtc sol
      obtain ⟨M2, R2, C2, E2⟩ := solved_mtc sol2
      have im := gm.il.le l4
      have ic := gc.il.le l4
      have im2 := gm2.il
      have ic2 := gc2.il
      obtain ⟨A1, k1, hx1, _⟩ := id im
      obtain ⟨A2, k2, hx2, _⟩ := id im2
      have v1 : lenV T 26 xm = some (.int .i64 ml.length) := by rw [hx1]; simp
      have v2 : lenV T 26 xm2 = some (.int .i64 ml2.length) := by rw [hx2]; simp
      simp [JN, v1, v2, hlen, L4.cell _ _ _ c0, L4.cell _ _ _ c1]
      refine CALL_mk en19 (covered_ok (hg.le L4) im ic t.fine M1 R1 C1 E1) ?_
      rintro e h4 ⟨rfl, l5⟩
      have L5 := L4.trans l5
      simp [L5.cell _ _ _ c0, L5.cell _ _ _ c1]
      refine CALL_mk en19 (covered_ok (hg.le L5) (im2.le l5) (ic2.le l5) t.fine M2 R2 C2 E2) ?_
      rintro e h5 ⟨rfl, l6⟩
      simp [hlen]

end Go.Proofs.Ythchjolcjicpgaa
