/- The contract of bimatch's kind 1. -/
import Derived.Test.YthchjolcjicpgaaCTry
import Derived.Test.YthchjolcjicpgaaMPair2
namespace Go.Proofs.Ythchjolcjicpgaa
open Go.HW Pair

theorem PS.le {S S' : Heap} {p bo bb : Nat} {g : G} {es : List RE} {outL : Nat → List Nat} (a : PS S p bo bb g es outL) (l : Le S S') : PS S' p bo bb g es outL :=
  ⟨a.pg.le l, a.m, a.ends, let ⟨c, h⟩ := a.c3; ⟨c, l.cell _ _ _ h⟩, fun v hv => let ⟨x, h1, h2⟩ := a.row v hv; ⟨x, l.cell _ _ _ h1, h2.le l⟩, a.out, let ⟨c, h⟩ := a.c4; ⟨c, l.cell _ _ _ h⟩, a.big, a.len⟩

theorem simple_match {S h : Heap} {p bo bb s : Nat} {g : G} {es : List RE} {outL : Nat → List Nat} {by_ : Nat → Int} (a : PS S p bo bb g es outL)
    (s0 : S.cell s 0 = some (.pointer (some ⟨p, 0, none⟩))) (s1 : S.cell s 1 = none) (si : S.info s = some (84, 2)) (l : Le S h) (fb : S.fresh bb) (hb : IA h bb g.n by_) (hz : ∀ x, x < g.n → by_ x = -1) :
    HCalls Try.prog 156 #[.pointer (some ⟨s, 0, none⟩)] h fun e h' => e = .returned (.tuple #[]) ∧ Le S h' ∧ ∃ by', IA h' bb g.n by' ∧ Pair.M g by' ∧ Best g by' g.left := by
  apply H156
  have g0 := a.pg.c0
  have g2 := a.pg.c2
  have en_le := a.pg.small
  have hn := g.hn
  simp only [F156]
  simp [l.cell _ _ _ s0, l.cell _ _ _ g2]
  refine ⟨fun m xs h1 => ∃ (v : Nat) (by1 : Nat → Int), xs = [.int .i64 v] ∧ v ≤ g.left ∧ m = g.left - v ∧ Le S h1 ∧ IA h1 bb g.n by1 ∧ Pair.M g by1 ∧ Best g by1 v ∧ ∀ u, v ≤ u → u < g.left → by1 u = -1,
    ⟨_, 0, by_, rfl, by omega, rfl, l, hb, M.none g by_ hz, Best.none g by_, fun u _ hu => hz u (by omega)⟩, ?_⟩
  rintro m X h1 ⟨v, by1, hX, hv, rfl, l1, hb1, hM, hB, hfree⟩
  simp only [List.cons.injEq, and_true] at hX
  simp only [hX]
  simp
  refine ⟨fun hlt => ?_, fun hge => ?_⟩
  · simp [l1.cell _ _ _ s0, l1.cell _ _ _ g0]
    rw [ms_74 g.n (by omega) (by omega)]
    simp
    intro r hr
    have hsr : s ≠ r := hr.nei (l1.info _ _ si)
    have frS := hr.le l1
    simp [hsr, can_info (l1.info _ _ si)]
    have hbr : bb ≠ r := hr.nei hb1.info
    have hsb : bb ≠ s := (fb.nei si).symm
    have l2 : Le (S.set s 1 (.slice (some ⟨r, 0, none⟩) g.n g.n)) ((h1.new r (zrow #[.bool false] g.n) 4).set s 1 (.slice (some ⟨r, 0, none⟩) g.n g.n)) := by
      have l3 := l1.new hr (zrow #[.bool false] g.n) 4
      refine ⟨fun b i x hx => ?_, l3.info⟩
      by_cases e : b = s ∧ i = 1
      · obtain ⟨rfl, rfl⟩ := e
        rw [set_cell_same] at hx ⊢
        exact hx
      · rw [set_cell_other _ _ e] at hx ⊢
        exact l3.cell _ _ _ hx
    have lS : Le S (S.set s 1 (.slice (some ⟨r, 0, none⟩) g.n g.n)) := ⟨fun b i x hx => by
      by_cases e : b = s ∧ i = 1
      · obtain ⟨rfl, rfl⟩ := e
        rw [s1] at hx; cases hx
      · rw [set_cell_other _ _ e]; exact hx, fun _ _ h => h⟩
    refine CALL_mk en157 (try_c _ (S.set s 1 (.slice (some ⟨r, 0, none⟩) g.n g.n)) _ by1 (fun _ => false) v (Nat.le_refl _) (a.le lS) (by simp [s0]) ⟨g.n, by simp⟩ l2 ⟨fb.1, fun i => ?_⟩ ⟨frS.1, fun i => ?_⟩ hbr
      ((hb1.new hr _ _).other hsb _) ((GA.fresh Value.bool 4 h1 r g.n false).other hsr.symm _) hM (.inl (hfree v (Nat.le_refl _) hlt)) hlt) ?_
    · rw [set_cell_other _ _ (fun e => hsb e.1)]; exact fb.2 i
    · rw [set_cell_other _ _ (fun e => hsr e.1.symm)]; exact frS.2 i
    rintro e h4 ⟨l4, s', _, h5⟩
    have w1 : IntKind.i64.wrap ((v : Int) + 1) = ((v + 1 : Nat) : Int) := by rw [wrap_in (by omega) (by omega)]; rfl
    have nxt : ∀ by', IA h4 bb g.n by' → Pair.M g by' → Best g by' (v + 1) → (∀ u, v + 1 ≤ u → u < g.left → by' u = -1) →
        ∃ m', m' < g.left - v ∧ ∃ v' : Nat, IntKind.i64.wrap ((v : Int) + 1) = (v' : Int) ∧ v' ≤ g.left ∧ m' = g.left - v' ∧ Le S h4 ∧ ∃ x, IA h4 bb g.n x ∧ Pair.M g x ∧ Best g x v' ∧ ∀ u, v' ≤ u → u < g.left → x u = -1 :=
      fun by' b1 b2 b3 b4 => ⟨_, by omega, v + 1, w1, by omega, rfl, lS.trans l4, by', b1, b2, b3, b4⟩
    rcases h5 with ⟨rfl, by', hb', W⟩ | ⟨rfl, hb', F⟩
    · simp
      exact nxt by' hb' (W.m (hfree v (Nat.le_refl _) hlt)) (hB.win W hlt) fun u h1 h2 => (W.keepL u h2 (by omega)).1 (hfree u (by omega) h2)
    · simp
      exact nxt by1 hb' hM (hB.fail F) fun u h1 h2 => hfree u (by omega) h2
  · have : v = g.left := by omega
    subst this
    exact ⟨l1, by1, hb1, hM, hB⟩

end Go.Proofs.Ythchjolcjicpgaa
