/- The contract of one look for a way (bimatch's kind 1). -/
import Derived.Test.YthchjolcjicpgaaCPair
import Derived.Test.YthchjolcjicpgaaMPair
namespace Go.Proofs.Ythchjolcjicpgaa
open Go.HW Pair

/-- The graph of a search, and what of it stands in the Go program's struct: 'bo': the block of the rows of edges, 'bb': of the matching edges. -/
structure PS (S : Heap) (p bo bb : Nat) (g : G) (es : List RE) (outL : Nat → List Nat) : Prop where
  pg : PG S p g.n g.left es
  m : g.m = es.length
  ends : ∀ (i : Nat) (e : RE), es[i]? = some e → (e.u = g.L i ∧ e.v = g.R i) ∨ (e.u = g.R i ∧ e.v = g.L i)
  c3 : ∃ c, S.cell p 3 = some (.slice (some ⟨bo, 0, none⟩) g.left c)
  row : ∀ v, v < g.left → ∃ x, S.cell bo v = some x ∧ IL S x (outL v)
  out : ∀ v, v < g.left → ∀ i, i ∈ outL v ↔ i < g.m ∧ g.L i = v
  c4 : ∃ c, S.cell p 4 = some (.slice (some ⟨bb, 0, none⟩) g.n c)
  big : es.length ≤ 4096
  len : ∀ v, v < g.left → (outL v).length ≤ 4096

theorem PG.le {h h' : Heap} {p n left : Nat} {es : List RE} (g : PG h p n left es) (l : Le h h') : PG h' p n left es :=
  ⟨l.cell _ _ _ g.c0, let ⟨x, a, b⟩ := g.c1; ⟨x, l.cell _ _ _ a, b.le l⟩, l.cell _ _ _ g.c2, g.inn, g.small⟩

theorem PS.edge {S : Heap} {p bo bb : Nat} {g : G} {es : List RE} {outL : Nat → List Nat} (a : PS S p bo bb g es outL) {i : Nat} (hi : i < g.m) : ∃ e, es[i]? = some e ∧ e.u + e.v = (g.L i : Int) + g.R i := by
  rw [a.m] at hi
  refine ⟨es[i], List.getElem?_eq_getElem hi, ?_⟩
  rcases a.ends i _ (List.getElem?_eq_getElem hi) with ⟨h1, h2⟩ | ⟨h1, h2⟩ <;> omega

theorem other_p {S h : Heap} {p bo bb : Nat} {g : G} {es : List RE} {outL : Nat → List Nat} (a : PS S p bo bb g es outL) (l : Le S h) {i : Nat} (hi : i < g.m) {v : Nat} (hv : v < g.n) :
    HCalls Try.prog 86 #[.pointer (some ⟨p, 0, none⟩), .int .i64 i, .int .i64 v] h fun en h' => en = .returned (.int .i64 ((g.L i : Int) + g.R i - v)) ∧ h' = h := by
  obtain ⟨e, he, hs⟩ := a.edge hi
  rw [← hs]
  exact other_c (a.pg.le l) he ⟨by omega, by omega⟩

theorem take_p {S h : Heap} {p bo bb : Nat} {g : G} {es : List RE} {outL : Nat → List Nat} {by_ : Nat → Int} (a : PS S p bo bb g es outL) (l : Le S h) (hf : S.fresh bb) (hb : IA h bb g.n by_) {i : Nat} (hi : i < g.m) :
    HCalls Try.prog 155 #[.pointer (some ⟨p, 0, none⟩), .int .i64 i] h fun en h' => en = .returned (.tuple #[]) ∧ Le S h' ∧ IA h' bb g.n (updI (updI by_ (g.L i) i) (g.R i) i) ∧ ∀ b x, b ≠ bb → h'.cell b x = h.cell b x ∧ h'.info b = h.info b := by
  obtain ⟨c, h4⟩ := a.c4
  have hi' : i < es.length := by have := a.m; omega
  have he := List.getElem?_eq_getElem hi'
  have hl := g.hl i hi
  have hr := g.hr i hi
  refine (take_c (a.pg.le l) (l.cell _ _ _ h4) hb he).mono ?_
  rintro en h' ⟨rfl, rfl⟩
  refine ⟨rfl, (l.set_fresh hf _ _).set_fresh hf _ _, ?_, fun b x hne => ⟨by rw [set_cell_other _ _ (fun e => hne e.1), set_cell_other _ _ (fun e => hne e.1)], rfl⟩⟩
  refine (GA.set (GA.set hb (i : Int)) (i : Int)).ext fun x hx => ?_
  have hne : g.L i ≠ g.R i := by omega
  rcases a.ends i _ he with ⟨h1, h2⟩ | ⟨h1, h2⟩ <;> rw [h1, h2] <;> simp only [Int.toNat_natCast, upd, updI] <;> (repeat' split) <;> first | rfl | (exfalso; omega)

theorem try_c {p bo bb s bs : Nat} {g : G} {es : List RE} {outL : Nat → List Nat} : ∀ (N : Nat) (S h : Heap) (by_ : Nat → Int) (seen : Nat → Bool) (v : Nat), unseen g.n seen ≤ N →
    PS S p bo bb g es outL → S.cell s 0 = some (.pointer (some ⟨p, 0, none⟩)) → (∃ c, S.cell s 1 = some (.slice (some ⟨bs, 0, none⟩) g.n c)) → Le S h → S.fresh bb → S.fresh bs → bb ≠ bs → IA h bb g.n by_ → BA h bs g.n seen →
    Pair.M g by_ → Pair.Safe g by_ seen v → v < g.left →
    HCalls Try.prog 157 #[.pointer (some ⟨s, 0, none⟩), .int .i64 v] h fun e h' => Le S h' ∧ ∃ seen', BA h' bs g.n seen' ∧
      ((e = .returned (.bool true) ∧ ∃ by', IA h' bb g.n by' ∧ Win g by_ by' seen v) ∨ (e = .returned (.bool false) ∧ IA h' bb g.n by_ ∧ Fail g by_ seen seen' v)) := by
  intro N
  induction N using Nat.strongRecOn with
  | _ N ih =>
    intro S h by_ seen v hN a hs0 hs1 l fb fs hne hb hse hM hsafe hv
    apply H157
    obtain ⟨c3, e3⟩ := a.c3
    obtain ⟨c4, e4⟩ := a.c4
    obtain ⟨cs, es1⟩ := hs1
    obtain ⟨x, ex, ⟨A, cx, rfl, hx⟩⟩ := a.row v hv
    have hvl : (v : Int) < (g.left : Int) := by omega
    simp only [F157, JN]
    simp [l.cell _ _ _ hs0, l.cell _ _ _ e3, l.cell _ _ _ ex, hvl]
    refine ⟨fun m xs h1 => ∃ (j : Nat) (s1 : Nat → Bool), xs = [.int .i64 j] ∧ j ≤ (outL v).length ∧ m = (outL v).length - j ∧ Le S h1 ∧ IA h1 bb g.n by_ ∧ BA h1 bs g.n s1 ∧ Going g by_ seen s1 (outL v) j,
      ⟨_, 0, seen, rfl, by omega, rfl, l, hb, hse, Going.start _ _ _ _⟩, ?_⟩
    rintro m X h1 ⟨j, s1, hX, hj, rfl, l1, hb1, hs1', go⟩
    simp only [List.cons.injEq, and_true] at hX
    simp only [hX]
    have en_le := a.pg.small
    have hll := a.len v hv
    have w1 : IntKind.i64.wrap ((j : Int) + 1) = ((j + 1 : Nat) : Int) := by rw [wrap_in (by omega) (by omega)]; omega
    simp only [bin_lss, PV_some, ifV_dec]
    refine ⟨fun hlt => ?_, fun hge => ?_⟩
    · have hlt' : j < (outL v).length := by omega
      obtain ⟨b, o, rfl, hcell⟩ := hx j _ (List.getElem?_eq_getElem hlt')
      generalize hi : (outL v)[j] = i at hcell
      have hi' : (outL v)[j]? = some i := by rw [List.getElem?_eq_getElem hlt', hi]
      obtain ⟨him, hiL⟩ := (a.out v hv i).1 (by rw [← hi]; exact List.getElem_mem hlt')
      have hr := g.hr i him
      simp [hlt', l1.cell _ _ _ hcell, l1.cell _ _ _ hs0, l1.cell _ _ _ es1]
      refine CALL_mk en86 (other_p a l1 him (by have := g.hn; omega)) ?_
      rintro e h2 ⟨rfl, rfl⟩
      have eo : (g.L i : Int) + g.R i - v = g.R i := by omega
      rw [eo]
      have hRl : ((g.R i : Nat) : Int) < (g.n : Int) := by omega
      simp [hr.2, l1.cell _ _ _ es1, hRl, hs1'.cell _ hr.2]
      have nxt : ∀ (s2 : Nat → Bool) (h3 : Heap), Le S h3 → IA h3 bb g.n by_ → BA h3 bs g.n s2 → Going g by_ seen s2 (outL v) (j + 1) →
          (∃ m', m' < (outL v).length - j ∧ ∃ j1 : Nat, IntKind.i64.wrap ((j : Int) + 1) = (j1 : Int) ∧ j1 ≤ (outL v).length ∧ m' = (outL v).length - j1 ∧ Le S h3 ∧ IA h3 bb g.n by_ ∧ ∃ x, BA h3 bs g.n x ∧ Going g by_ seen x (outL v) j1) := by
        intro s2 h3 a1 a2 a3 a4
        exact ⟨_, by omega, j + 1, w1, by omega, rfl, a1, a2, s2, a3, a4⟩
      rw [ifV_bool]
      refine ⟨fun hs => nxt s1 h2 l1 hb1 hs1' (go.skip hi' hs), fun hs => ?_⟩
      have l2 : Le S (h2.set bs (g.R i) (.bool true)) := l1.set_fresh fs _ _
      have hb2 : IA (h2.set bs (g.R i) (.bool true)) bb g.n by_ := hb1.other hne _
      have hs2 : BA (h2.set bs (g.R i) (.bool true)) bs g.n (Pair.set s1 (g.R i)) := (hs1'.set true).ext fun _ _ => rfl
      simp [hs1'.can hr.2]
      generalize h2.set bs (g.R i) (.bool true) = h3 at l2 hb2 hs2
      simp [l2.cell _ _ _ hs0, l2.cell _ _ _ e4, hRl, hb2.cell _ hr.2]
      have us : unseen g.n (Pair.set s1 (g.R i)) < unseen g.n seen := Nat.lt_of_lt_of_le (unseen_lt _ _ _ (fun q _ hq => by simp only [Pair.set]; split <;> simp [hq]) hr.2 hs (by simp [Pair.set])) (unseen_le _ _ _ fun q _ hq => go.grow q hq)
      refine ⟨fun hneg => ?_, fun hpos => ?_⟩
      · have hfree : by_ (g.R i) = -1 := by
          rcases hM.some _ hr.2 with h | ⟨q, _, h, _⟩
          · exact h
          · omega
        refine CALL_mk en155 (take_p a l2 fb hb2 him) ?_
        rintro e h4 ⟨rfl, l4, hb4, hfr⟩
        have hs4 : BA h4 bs g.n (Pair.set s1 (g.R i)) := ⟨fun q hq => by rw [(hfr bs q (Ne.symm hne)).1]; exact hs2.cell q hq, by rw [(hfr bs 0 (Ne.symm hne)).2]; exact hs2.info⟩
        simp
        refine ⟨l4, ⟨_, hs4⟩, _, hb4, ?_⟩
        rw [hiL]
        exact Win.free hM him hiL hs (fun w hw => go.grow w hw) hfree
      · obtain ⟨k, hk, hbk, hkR⟩ : ∃ k, k < g.m ∧ by_ (g.R i) = (k : Int) ∧ g.R k = g.R i := by
          rcases hM.some _ hr.2 with h | ⟨q, hq, h, h'⟩
          · omega
          · refine ⟨q, hq, h, h'.resolve_left fun e => ?_⟩
            have := g.hl q hq
            omega
        have hLk := g.hl k hk
        have hbLk : by_ (g.L k) = (k : Int) := (hM.both k hk).2 (by rw [hkR]; exact hbk)
        rw [hbk]
        refine CALL_mk en86 (other_p a l2 hk hr.2) ?_
        rintro e h4 ⟨rfl, rfl⟩
        have eo2 : (g.L k : Int) + g.R k - g.R i = g.L k := by rw [hkR]; omega
        rw [eo2]
        simp only [endR_ret]
        refine CALL_mk en157 (ih _ (Nat.lt_of_lt_of_le us hN) S h4 by_ (Pair.set s1 (g.R i)) (g.L k) (Nat.le_refl _) a hs0 ⟨cs, es1⟩ l2 fb fs hne hb2 hs2 hM (.inr ⟨k, hk, hbLk, by rw [hkR]; simp [Pair.set]⟩) hLk) ?_
        rintro e h5 ⟨l5, s5, hs5, ⟨rfl, by', hb5, W⟩ | ⟨rfl, hb5, Fl⟩⟩
        · simp [l5.cell _ _ _ hs0]
          have hMok : True := trivial
          refine CALL_mk en155 (take_p a l5 fb hb5 him) ?_
          rintro e h6 ⟨rfl, l6, hb6, hfr⟩
          have hs6 : BA h6 bs g.n s5 := ⟨fun q hq => by rw [(hfr bs q (Ne.symm hne)).1]; exact hs5.cell q hq, by rw [(hfr bs 0 (Ne.symm hne)).2]; exact hs5.info⟩
          simp
          refine ⟨l6, ⟨_, hs6⟩, _, hb6, ?_⟩
          rw [hiL]
          refine Win.pass hM him hiL hs (fun w hw => go.grow w hw) hk hbk hkR W ?_ hsafe
          intro e
          rcases hsafe with h | ⟨q, _, h, h'⟩
          · rw [e] at hbLk; omega
          · rw [e] at hbLk
            have : q = k := by omega
            subst this
            rw [hkR] at h'
            rw [go.grow _ h'] at hs
            cases hs
        · simp
          exact nxt s5 h5 l5 hb5 hs5 (go.step hi' hk hbk hkR Fl)
    · skip
      exact ⟨l1, s1, hs1', hb1, go.done (by omega) fun i hi hL => (a.out v hv i).2 ⟨hi, hL⟩⟩

end Go.Proofs.Ythchjolcjicpgaa
