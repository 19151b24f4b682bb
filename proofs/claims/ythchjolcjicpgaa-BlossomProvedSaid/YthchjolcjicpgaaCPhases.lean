/- The contract of bimatch's kind 2. -/
import Derived.Test.YthchjolcjicpgaaCLayer
import Derived.Test.YthchjolcjicpgaaCAlong
namespace Go.Proofs.Ythchjolcjicpgaa
open Go.HW Pair

/-- How many nodes of the left side are not matched. -/
def lone (g : G) (by_ : Nat → Int) : Nat := unseen g.left fun x => decide (by_ x ≠ -1)

theorem lone_win {g : G} {by_ by' : Nat → Int} {seen : Nat → Bool} {v : Nat} (W : Win g by_ by' seen v) (hv : v < g.left) (hb : by_ v = -1) : lone g by' < lone g by_ := by
  obtain ⟨i, _, _, h, _⟩ := W.take
  refine unseen_lt _ _ _ (fun x hx h => ?_) hv (by simp [hb]) (by simp; omega)
  simp at h ⊢
  by_cases e : x = v
  · subst e; omega
  · exact fun h2 => h ((W.keepL x hx e).2 h2)

theorem phases_match {S h : Heap} {p bo bb q : Nat} {g : G} {es : List RE} {outL : Nat → List Nat} {by_ : Nat → Int} (a : PS S p bo bb g es outL) (q0 : S.cell q 0 = some (.pointer (some ⟨p, 0, none⟩)))
    (q1 : S.cell q 1 = none) (q2 : S.cell q 2 = none) (qi : S.info q = some (87, 3)) (l : Le S h) (fb : S.fresh bb) (hb : IA h bb g.n by_) (hz : ∀ x, x < g.n → by_ x = -1) :
    HCalls Try.prog 158 #[.pointer (some ⟨q, 0, none⟩)] h fun e h' => e = .returned (.tuple #[]) ∧ Le S h' ∧ ∃ by', IA h' bb g.n by' ∧ Pair.M g by' ∧ Best g by' g.left := by
  apply H158
  have g2 := a.pg.c2
  obtain ⟨c4, e4⟩ := a.c4
  have en_le := a.pg.small
  have hn := g.hn
  have hbq : bb ≠ q := (fb.nei qi).symm
  simp only [F158]
  obtain ⟨I, hI⟩ : ∃ I : Nat → List Value → Heap → Prop, ∀ m xs h1, I m xs h1 ↔ ∃ (by1 : Nat → Int), m = lone g by1 ∧ Le S h1 ∧ IA h1 bb g.n by1 ∧ Pair.M g by1 := ⟨_, fun _ _ _ => Iff.rfl⟩
  refine ⟨I, ⟨_, (hI _ _ _).2 ⟨by_, rfl, l, hb, M.none g by_ hz⟩⟩, ?_⟩
  intro m X h1 hI1
  obtain ⟨by1, rfl, l1, hb1, hM⟩ := (hI _ _ _).1 hI1
  refine CALL_mk en159 (layer_c a q0 q1 q2 qi l1 fb hb1 hM) ?_
  rintro e h2 ⟨found, rfl, bl, bn, lev, y⟩
  have lP := phS_le (S := S) q1 q2 bl bn g.n
  simp [ifV_bool]
  refine ⟨fun hf => ?_, fun hf => ?_⟩
  · subst hf
    have l2 := y.le
    have a2 := a.le lP
    simp [(lP.trans l2).cell _ _ _ q0, (lP.trans l2).cell _ _ _ g2]
    obtain ⟨I1, hI1⟩ : ∃ I1 : Nat → List Value → Heap → Prop, ∀ m xs h1, I1 m xs h1 ↔ ∃ (v : Nat) (by2 lev2 nx2 : Nat → Int), xs = [.int .i64 v] ∧ v ≤ g.left ∧ m = g.left - v ∧ Le (phS S q bl bn g.n) h1 ∧ IA h1 bb g.n by2 ∧ IA h1 bl g.n lev2 ∧ IA h1 bn g.n nx2 ∧
        Pair.M g by2 ∧ (∀ x, x < g.left → -1 ≤ lev2 x ∧ lev2 x ≤ g.n) ∧ (∀ x, x < g.left → 0 ≤ nx2 x ∧ nx2 x ≤ (outL x).length) ∧
        ((by2 = by1 ∧ Lev g by1 lev lev2 ∧ (∀ x, x < g.left → lev2 x = -1 ∨ nx2 x = 0) ∧ (∀ u, u < v → by1 u = -1 → lev2 u = -1) ∧ ∀ u, v ≤ u → u < g.left → by1 u = -1 → lev2 u = 0) ∨ lone g by2 < lone g by1) := ⟨_, fun _ _ _ => Iff.rfl⟩
    refine ⟨I1, ⟨_, (hI1 _ _ _).2 ⟨0, by1, lev, fun _ => 0, rfl, by omega, rfl, l2, y.hb, y.hl, y.hn, hM, y.lay.low, fun x _ => ⟨Int.le_refl _, Int.natCast_nonneg _⟩, .inl ⟨rfl, Lev.refl _ _ _, fun _ _ => .inr rfl, fun u hu => by omega, fun u _ hu h => y.lay.free u hu h⟩⟩⟩, ?_⟩
    intro m1 X1 h3 hI3
    obtain ⟨v, by2, lev2, nx2, hX, hv, rfl, l3, b3, z3, n3, hM3, low3, nx3, st⟩ := (hI1 _ _ _).1 hI3
    simp only [List.cons.injEq, and_true] at hX
    simp only [hX]
    simp
    refine ⟨fun hlt => ?_, fun hge => ?_⟩
    · have hvn : v < g.n := by omega
      have hvn' : (v : Int) < (g.n : Int) := by omega
      have w1 : IntKind.i64.wrap ((v : Int) + 1) = ((v + 1 : Nat) : Int) := by rw [wrap_in (by omega) (by omega)]; rfl
      simp [l3.cell _ _ _ (lP.cell _ _ _ q0), l3.cell _ _ _ (lP.cell _ _ _ e4), hvn', b3.cell v hvn]
      refine ⟨fun hneg => ?_, fun hpos => ?_⟩
      · have hfree : by2 v = -1 := by
          rcases hM3.some v hvn with h | ⟨k, _, h, _⟩
          · exact h
          · omega
        refine CALL_mk en160 (along_c a2 (lP.cell _ _ _ q0) ⟨g.n, by simp [phS]⟩ ⟨g.n, by simp [phS]⟩ (phS_fresh fb hbq _ _ _) (phS_fresh y.fl y.lq _ _ _) (phS_fresh y.fn y.nq _ _ _) y.ne1 y.ne2 y.ne3 _ h3 by2 lev2 nx2 v (Nat.le_refl _) l3 b3 z3 n3 hM3 hlt low3 nx3) ?_
        rintro e h4 ⟨l4, lev4, nx4, z4, n4, aft, ⟨rfl, by4, b4, W⟩ | ⟨rfl, b4, F⟩⟩
        · simp
          have hw := lone_win W hlt hfree
          refine ⟨_, ?_, (hI1 _ _ _).2 ⟨v + 1, by4, lev4, nx4, by rw [w1], by omega, rfl, l4, b4, z4, n4, W.m hfree, fun x hx => ?_, aft.nx0, .inr ?_⟩⟩
          · omega
          · have := aft.lev x hx
            have := low3 x hx
            omega
          · rcases st with ⟨rfl, _⟩ | st
            · exact hw
            · omega
        · simp
          refine ⟨_, ?_, (hI1 _ _ _).2 ⟨v + 1, by2, lev4, nx4, by rw [w1], by omega, rfl, l4, b4, z4, n4, hM3, fun x hx => ?_, aft.nx0, st.imp ?_ id⟩⟩
          · omega
          · have := aft.lev x hx
            have := low3 x hx
            omega
          · rintro ⟨rfl, s1, s2, s3, s4⟩
            have hv0 := s4 v (Nat.le_refl _) hlt hfree
            obtain ⟨t1, t2⟩ := F.clean fun x hx h => (s2 x hx).resolve_left (by omega)
            refine ⟨rfl, s1.trans t1, fun x hx => ?_, fun u hu hfu => ?_, fun u hu hul hfu => ?_⟩
            · by_cases h : lev2 v ≤ lev2 x
              · exact t2 x hx h
              · have h8 := F.frame x hx (by rintro rfl; omega) (by omega)
                rw [h8.1, h8.2]
                exact s2 x hx
            · by_cases e : u = v
              · rw [e]; exact F.dead
              · have h9 := s3 u (by omega) hfu
                have := aft.lev u (by omega)
                omega
            · have h8 := F.frame u hul (by omega) (by rw [hv0, s4 u (by omega) hul hfu]; exact Int.le_refl _)
              rw [h8.2]
              exact s4 u (by omega) hul hfu
      · refine ⟨_, ?_, (hI1 _ _ _).2 ⟨v + 1, by2, lev2, nx2, by rw [w1], by omega, rfl, l3, b3, z3, n3, hM3, low3, nx3, st.imp ?_ id⟩⟩
        · omega
        · rintro ⟨rfl, s1, s2, s3, s4⟩
          refine ⟨rfl, s1, s2, fun u hu hfu => ?_, fun u hu => s4 u (by omega)⟩
          by_cases e : u = v
          · subst e; omega
          · exact s3 u (by omega) hfu
    · refine ⟨_, ?_, (hI _ _ _).2 ⟨by2, rfl, lP.trans l3, b3, hM3⟩⟩
      rcases st with ⟨rfl, s1, s2, s3, s4⟩ | st
      · exfalso
        obtain ⟨i, hi, h1, h2⟩ := y.yes rfl
        have h3 := y.lay.stuck s1 (fun x hx h => s3 x (by omega) h) (lev (g.L i)).toNat (g.L i) (g.hl i hi) (by omega)
        rcases s1 (g.L i) (g.hl i hi) with h4 | ⟨_, h4⟩
        · omega
        · obtain ⟨k, _, h5, _⟩ := h4 i hi rfl
          omega
      · exact st
  · subst hf
    exact ⟨lP.trans y.le, by1, y.hb, hM, y.no rfl⟩

end Go.Proofs.Ythchjolcjicpgaa
