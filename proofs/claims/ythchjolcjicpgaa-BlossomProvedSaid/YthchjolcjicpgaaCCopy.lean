/- compassref03.Copy and Same. -/
import Derived.Test.YthchjolcjicpgaaGrowE
import Derived.Test.YthchjolcjicpgaaFVouch
namespace Go.Proofs.Ythchjolcjicpgaa
open Go.HW

theorem copy_c {h : Heap} {n : Int} {gx : Value} {es : List RE} (hg : ES h gx es) (hm : es.length * 32 ≤ 140737488355328) :
    HCalls Try.prog 20 #[.agg #[.int .i64 n, gx]] h fun e h' => Le h h' ∧ ∃ x' bk, e = .returned (.agg #[.int .i64 n, x']) ∧ GE 40 h h' x' es bk := by
  apply H20
  unfold F20
  intro r hr r1 hr1
  have l1 := Heap.le_new hr (Value.cells (.agg #[.int .i64 n, gx])) 25
  have c0 : (h.new r (Value.cells (.agg #[.int .i64 n, gx])) 25).cell r 0 = some (.int .i64 n) := by simp
  have c1 : (h.new r (Value.cells (.agg #[.int .i64 n, gx])) 25).cell r 1 = some gx := by simp
  have ir : (h.new r (Value.cells (.agg #[.int .i64 n, gx])) 25).info r = some (25, 2) := by simp
  generalize h.new r (Value.cells (.agg #[.int .i64 n, gx])) 25 = S at l1 c0 c1 ir hr1
  have hn1 : r ≠ r1 := hr1.nei ir
  simp [c0, hn1]
  intro r2 hr2
  have f2 := hr2.le (Heap.le_new hr1 #[.int .i64 0, .slice none 0 0] 25)
  have hn2 : r1 ≠ r2 := hr2.nei (x := (25, 2)) (by simp)
  have l2 := ((Le.refl S).new hr1 #[.int .i64 0, .slice none 0 0] 25).new hr2 #[.int .i64 0, .slice none 0 0] 25
  simp [setL_cons]
  obtain ⟨h1, hh1⟩ : ∃ h1, h1 = ((((S.new r1 #[.int .i64 0, .slice none 0 0] 25).new r2 #[.int .i64 0, .slice none 0 0] 25).set r2 0 (.int .i64 n)).set r2 1 (.slice none 0 0)) := ⟨_, rfl⟩
  have l3 : Le S h1 := by rw [hh1]; exact (l2.set_fresh f2 _ _).set_fresh f2 _ _
  have i1 : h1.info r1 = some (25, 2) := by rw [hh1]; simp [hn2]
  have i2 : h1.info r2 = some (25, 2) := by rw [hh1]; simp
  have d0 : h1.cell r2 0 = some (.int .i64 n) := by rw [hh1]; simp
  have d1 : h1.cell r2 1 = some (.slice none 0 0) := by rw [hh1]; simp
  rw [← hh1]
  clear hh1 l2
  have hg := hg.le l1
  obtain ⟨A, cx, rfl, hcap, hA⟩ := hg.shape
  obtain ⟨I, hI⟩ : ∃ I : Nat → List Value → Heap → Prop, ∀ m xs h4, I m xs h4 ↔ ∃ (j : Nat) (x : Value) (bk : Option Nat), xs = [.int .i64 j] ∧ j ≤ es.length ∧ m = es.length - j ∧ Le S h4 ∧ h4.info r1 = some (25, 2) ∧ h4.info r2 = some (25, 2) ∧
      h4.cell r2 0 = some (.int .i64 n) ∧ h4.cell r2 1 = some x ∧ GE 40 S h4 x (es.take j) bk ∧ bk ≠ some r1 ∧ bk ≠ some r2 := ⟨_, fun _ _ _ => Iff.rfl⟩
  refine ⟨I, ⟨_, (hI _ _ _).2 ⟨0, _, none, rfl, by omega, rfl, l3, i1, i2, d0, d1, ⟨rfl, rfl⟩, by simp, by simp⟩⟩, ?_⟩
  clear l3 i1 i2 d0 d1 h1
  intro m X h1 hI1
  obtain ⟨j, x, bk, hX, hj, rfl, l3, i1, i2, d0, d1, ge, k1, k2⟩ := (hI _ _ _).1 hI1
  simp only [List.cons.injEq, and_true] at hX
  simp only [hX]
  have w1 : IntKind.i64.wrap ((j : Int) + 1) = ((j + 1 : Nat) : Int) := by rw [wrap_in (by omega) (by omega)]; rfl
  simp [l3.cell _ _ _ c1]
  refine ⟨fun hlt => ?_, fun hge => ?_⟩
  · have he := List.getElem?_eq_getElem hlt
    obtain ⟨b', o, rfl, e0, e1, e2, e3⟩ := hA j _ he
    generalize he' : es[j] = e at e0 e1 e2 e3 he
    simp [d1, hlt, l3.cell _ _ _ e0, l3.cell _ _ _ e1, l3.cell _ _ _ e2, l3.cell _ _ _ e3]
    intro q hq
    have hq2 : r2 ≠ q := hq.nei i2
    have hq1 : r1 ≠ q := hq.nei i1
    have ge4 := ge.keep ((Keep.refl (fun _ => True) h1).new hq #[.int .i64 e.u, .int .i64 e.v, .int .i64 e.cap, .int .i64 e.cost] 40) (fun _ _ => trivial)
    have ht : (es.take j).length * 32 ≤ 140737488355328 := by have := List.length_take_le j es; simp; omega
    refine AP_edge (e := e) el_23 rfl ge4 (l3.new hq _ _) ht (by simp) ?_
    intro x' h5 bk' ge5 l5 _ hbk kp _
    have kb1 := ne_push2 (S := S) k1 (y := (25, 2)) (by simpa [hq1] using i1) hbk
    have kb2 := ne_push2 (S := S) k2 (y := (25, 2)) (by simpa [hq2] using i2) hbk
    have a1 := kp.of kb1 (x := (25, 2)) (by simpa [hq1] using i1)
    have a2 := kp.of kb2 (x := (25, 2)) (by simpa [hq2] using i2)
    have i5 : h5.info r2 = some (25, 2) := by rw [a2.2]; simpa [hq2] using i2
    obtain ⟨A2, c2, hx2, _⟩ := ge5.shape
    have fin : ∃ m', m' < es.length - j ∧ I m' [.int .i64 (IntKind.i64.wrap ((j : Int) + 1))] (h5.set r2 1 x') := by
      refine ⟨_, by omega, (hI _ _ _).2 ⟨j + 1, x', bk', by rw [w1], by omega, rfl, l5.set_fresh f2 _ _, ?_, ?_, ?_, by simp, ?_, kb1, kb2⟩⟩
      · simp only [set_info]; rw [a1.2]; simpa [hq1] using i1
      · simp only [set_info]; exact i5
      · rw [set_cell_here, if_neg (by omega), a2.1]; simpa [hq2] using d0
      · rw [List.take_add_one, he]
        exact ge5.keep ((Keep.refl (fun b => b ≠ r2) h5).set (fun h => h rfl) _ _) fun b hb e => kb2 (by rw [hb, e])
    rw [hx2] at fin ⊢
    simp [can_info i5]
    intro _
    simp at fin
    exact fin
  · have hj' : j = es.length := by omega
    subst hj'
    rw [List.take_length] at ge
    obtain ⟨A2, c2, rfl, _⟩ := ge.shape
    simp [d0, d1, setL_cons, can_info i1]
    have kk := (((Keep.refl (fun b => b ≠ r1) h1).set (fun h => h rfl) 0 (.int .i64 n)).set (fun h => h rfl) 1 (.slice A2 es.length c2))
    have g2 := ge.keep kk fun b hb e => k1 (by rw [hb, e])
    refine ⟨l1.trans ((l3.set_fresh hr1 _ _).set_fresh hr1 _ _), bk, ?_⟩
    cases bk with
    | none => exact g2
    | some b =>
      obtain ⟨f, rest⟩ := g2
      exact ⟨f.le l1, rest⟩

theorem same_ok {h : Heap} {n : Int} {x y : Value} {es : List RE} (hx : ES h x es) (hy : ES h y es) (hm : es.length * 32 ≤ 140737488355328) :
    HCalls Try.prog 21 #[.agg #[.int .i64 n, x], .agg #[.int .i64 n, y]] h fun e h' => Le h h' ∧ e = .returned (.bool true) := by
  apply H21
  unfold F21
  intro r hr r1 hr1
  have l1 := (Heap.le_new hr (Value.cells (.agg #[.int .i64 n, x])) 25).new hr1 (Value.cells (.agg #[.int .i64 n, y])) 25
  have hn : r ≠ r1 := hr1.nei (x := (25, 2)) (by simp)
  have c0 : ((h.new r (Value.cells (.agg #[.int .i64 n, x])) 25).new r1 (Value.cells (.agg #[.int .i64 n, y])) 25).cell r 0 = some (.int .i64 n) := by simp [hn]
  have c1 : ((h.new r (Value.cells (.agg #[.int .i64 n, x])) 25).new r1 (Value.cells (.agg #[.int .i64 n, y])) 25).cell r 1 = some x := by simp [hn]
  have c2 : ((h.new r (Value.cells (.agg #[.int .i64 n, x])) 25).new r1 (Value.cells (.agg #[.int .i64 n, y])) 25).cell r1 0 = some (.int .i64 n) := by simp
  have c3 : ((h.new r (Value.cells (.agg #[.int .i64 n, x])) 25).new r1 (Value.cells (.agg #[.int .i64 n, y])) 25).cell r1 1 = some y := by simp
  generalize (h.new r (Value.cells (.agg #[.int .i64 n, x])) 25).new r1 (Value.cells (.agg #[.int .i64 n, y])) 25 = S at l1 c0 c1 c2 c3
  obtain ⟨A, cx, rfl, _, hA⟩ := (hx.le l1).shape
  obtain ⟨B, cy, rfl, _, hB⟩ := (hy.le l1).shape
  simp [JN, c0, c1, c2, c3]
  obtain ⟨I, hI⟩ : ∃ I : Nat → List Value → Heap → Prop, ∀ m xs h4, I m xs h4 ↔ ∃ j : Nat, xs = [.int .i64 j] ∧ j ≤ es.length ∧ m = es.length - j ∧ h4 = S := ⟨_, fun _ _ _ => Iff.rfl⟩
  refine ⟨I, ⟨_, (hI _ _ _).2 ⟨0, rfl, by omega, rfl, rfl⟩⟩, ?_⟩
  intro m X h1 hI1
  obtain ⟨j, hX, hj, rfl, rfl⟩ := (hI _ _ _).1 hI1
  simp only [List.cons.injEq, and_true] at hX
  simp only [hX]
  have w1 : IntKind.i64.wrap ((j : Int) + 1) = ((j + 1 : Nat) : Int) := by rw [wrap_in (by omega) (by omega)]; rfl
  simp [c1, c3, l1]
  intro hlt
  have he := List.getElem?_eq_getElem hlt
  obtain ⟨b', o, rfl, e0, e1, e2, e3⟩ := hA j _ he
  obtain ⟨b2, o2, rfl, e4, e5, e6, e7⟩ := hB j _ he
  simp [hlt, e0, e1, e2, e3, e4, e5, e6, e7]
  exact ⟨_, by omega, (hI _ _ _).2 ⟨j + 1, by rw [w1], by omega, rfl, rfl⟩⟩

end Go.Proofs.Ythchjolcjicpgaa
