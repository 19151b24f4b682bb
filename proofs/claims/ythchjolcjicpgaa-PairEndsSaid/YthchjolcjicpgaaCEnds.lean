/- PairEnds, as a contract. -/
import Derived.Test.YthchjolcjicpgaaCAwake
namespace Go.Proofs.Ythchjolcjicpgaa
open Go.HW Pair

theorem ends_c (h : Heap) (n k : Int) : HCalls Try.prog 3 #[.int .i64 n, .int .i64 k] h fun e _ => e = .returned (.bool true) := by
  apply H3
  unfold F3
  refine CALL_mk en15 (awake15_c h) ?_
  rintro e h1 ⟨l1, rfl⟩
  simp
  intro r hr
  have l2 := l1.trans (Heap.le_new hr #[.int .i64 0, .slice none 0 0] 25)
  have hi : (h1.new r #[.int .i64 0, .slice none 0 0] 25).info r = some (25, 2) := by simp
  generalize h1.new r #[.int .i64 0, .slice none 0 0] 25 = h2 at l2 hi
  simp [setL_cons, can_info hi]
  intro r2 hr2
  have hne : r ≠ r2 := hr2.nei (x := (25, 2)) (by simpa using hi)
  obtain ⟨S, hS⟩ : ∃ S, S = ((h2.set r 0 (.int .i64 n)).set r 1 (.slice none 0 0)).new r2 #[.int .i64 0, .int .i64 n] 3 := ⟨_, rfl⟩
  have c0 : S.cell r 0 = some (.int .i64 n) := by rw [hS]; simp [hne]
  have c1 : S.cell r 1 = some (.slice none 0 0) := by rw [hS]; simp [hne]
  have c2 : S.cell r2 0 = some (.int .i64 0) := by rw [hS]; simp
  have c3 : S.cell r2 1 = some (.int .i64 n) := by rw [hS]; simp
  have hES : ∀ h', ES h' (.slice none 0 0) [] := fun h' => ⟨none, 0, rfl, by simp, fun i e he => by simp at he⟩
  have hTwo : ∀ l : Int, (l = 0 ∨ l = n) → 0 ≤ n → n ≤ 1024 → Two n l [] := fun l hl h0 h1 => ⟨⟨h0, h1, by simp, fun i e he => by simp at he⟩, by omega, by omega, fun i e he => by simp at he⟩
  rw [← hS]
  clear hS hi l2
  obtain ⟨I, hI⟩ : ∃ I : Nat → List Value → Heap → Prop, ∀ m xs h1, I m xs h1 ↔ ∃ j : Nat, xs = [.int .i64 j] ∧ j ≤ 2 ∧ m = 2 - j ∧ Le S h1 := ⟨_, fun _ _ _ => Iff.rfl⟩
  refine ⟨I, ⟨_, (hI _ _ _).2 ⟨0, rfl, by omega, rfl, Le.refl _⟩⟩, ?_⟩
  intro m X h3 hI3
  obtain ⟨j, hX, hj, rfl, l3⟩ := (hI _ _ _).1 hI3
  simp only [List.cons.injEq, and_true] at hX
  simp only [hX]
  have w1 : IntKind.i64.wrap ((j : Int) + 1) = ((j + 1 : Nat) : Int) := by rw [wrap_in (by omega) (by omega)]; rfl
  simp
  refine ⟨fun hlt => ?_, fun hge => ?_⟩
  · obtain ⟨l, hl, hcl⟩ : ∃ l : Int, (l = 0 ∨ l = n) ∧ h3.cell r2 j = some (.int .i64 l) := by
      have : j = 0 ∨ j = 1 := by omega
      rcases this with rfl | rfl
      · exact ⟨0, .inl rfl, l3.cell _ _ _ c2⟩
      · exact ⟨n, .inr rfl, l3.cell _ _ _ c3⟩
    have hlt' : (j : Int) < 2 := by omega
    simp [hlt', hcl, l3.cell _ _ _ c0, l3.cell _ _ _ c1]
    refine CALL_mk en16 (solve_c (hES _)) ?_
    rintro e h4 ⟨l4, hs⟩
    have nxt : ∃ m', m' < 2 - j ∧ I m' [.int .i64 (IntKind.i64.wrap ((j : Int) + 1))] h4 := ⟨_, by omega, (hI _ _ _).2 ⟨j + 1, by rw [w1], by omega, rfl, l3.trans l4⟩⟩
    rcases hs with ⟨c, a, hc, hs, rfl⟩ | ⟨_, hk, rfl⟩ | ⟨hk, n', left', t, xm, xc, ml, cl, bm, bc, hn, hl', rfl, gm, gc, hne, sol⟩
    · have hno : ¬ (0 ≤ n ∧ n ≤ 1024) := fun ⟨a, b⟩ => hc (hs.two.2 (hTwo l hl a b))
      simp [hc]
      refine ⟨fun h0 => ⟨fun h1 => absurd ⟨h0, h1⟩ hno, fun _ => nxt⟩, fun _ => nxt⟩
    · simp
      refine ⟨fun _ => ⟨fun _ => ⟨fun _ => ⟨by omega, fun _ => nxt⟩, fun _ => nxt⟩, fun _ => nxt⟩, fun _ => nxt⟩
    · have hml : ml = [] := by
        cases ml with
        | nil => rfl
        | cons a b => have := sol.mlt a (by simp); simp [toG] at this
      subst hml
      have hcl := sol.len
      have hcl : cl = [] := by
        cases cl with
        | nil => rfl
        | cons a b => simp at hcl
      subst hcl
      have f0 := t.fine.n0
      have f1 := t.fine.n1
      obtain ⟨Am, cm, rfl, _⟩ := gm.il
      obtain ⟨Ac, cc, rfl, _⟩ := gc.il
      simp
      refine ⟨fun _ => ⟨fun _ => ⟨fun _ => ⟨by omega, fun _ => nxt⟩, ?_⟩, ?_⟩, ?_⟩ <;> omega
  · simp [l3.cell _ _ _ c0, l3.cell _ _ _ c1]
    refine CALL_mk en17 (sides_c (hES _)) ?_
    rintro e h4 ⟨c, a, rfl, l4, hs⟩
    have ha := hs.nil rfl
    subst ha
    have hc : c = 0 ↔ (0 ≤ n ∧ n ≤ 1024) := by
      rw [hs.two]
      exact ⟨fun t => ⟨t.fine.n0, t.fine.n1⟩, fun ⟨h0, h1⟩ => hTwo n (.inr rfl) h0 h1⟩
    simp
    intro r3 hr3
    simp [setL_cons]
    have fin : ∀ r4, ((((h4.new r3 #[.int .i64 0, .int .i64 0] 31).set r3 0 (.int .i64 c)).set r3 1 (.int .i64 0))).fresh r4 → ∀ r5, (((((h4.new r3 #[.int .i64 0, .int .i64 0] 31).set r3 0 (.int .i64 c)).set r3 1 (.int .i64 0))).new r4 #[.int .i64 0] 3).fresh r5 →
        CALL Try.prog 18 #[.slice (some ⟨r4, 0, none⟩) 1 1, .slice (some ⟨r5, 0, none⟩) 1 1] ((((((h4.new r3 #[.int .i64 0, .int .i64 0] 31).set r3 0 (.int .i64 c)).set r3 1 (.int .i64 0))).new r4 #[.int .i64 0] 3).new r5 #[.int .i64 0] 3)
          (fun v _ => v = .bool true) (fun _ _ => False) := by
      intro r4 hr4 r5 hr5
      have hne : r4 ≠ r5 := hr5.nei (x := (3, 1)) (by simp)
      refine CALL_mk en18 (ints15_c (l := [0]) (l' := [0]) ⟨_, 1, rfl, fun i x hx => ⟨r4, 0, rfl, ?_⟩⟩ ⟨_, 1, rfl, fun i x hx => ⟨r5, 0, rfl, ?_⟩⟩ (by simp)) ?_
      · match i, hx with
        | 0, hx => cases hx; simp [hne]
        | i + 1, hx => simp at hx
      · match i, hx with
        | 0, hx => cases hx; simp
        | i + 1, hx => simp at hx
      · rintro e h5 ⟨_, rfl⟩
        simp
    refine ⟨fun h0 => ⟨fun _ => fin, by omega⟩, fun h0 => ⟨fun _ => fin, by omega⟩⟩

end Go.Proofs.Ythchjolcjicpgaa
