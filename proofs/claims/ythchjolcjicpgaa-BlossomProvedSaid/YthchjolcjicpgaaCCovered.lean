/- The contract of vouch.Covered, where the proof is right. -/
import Derived.Test.YthchjolcjicpgaaCVouch
namespace Go.Proofs.Ythchjolcjicpgaa
open Go.HW

/-- Nodes that cover all edges that are no loops. -/
def Covs (es : List RE) (cl : List Nat) : Prop := ∀ (i : Nat) (e : RE), es[i]? = some e → e.u = e.v ∨ e.u.toNat ∈ cl ∨ e.v.toNat ∈ cl

theorem cov1_c {h : Heap} {r r1 r2 r3 n : Nat} {gx mx cx : Value} {es : List RE} {ml cl : List Nat} (c0 : h.cell r 0 = some (.int .i64 n)) (c1 : h.cell r 1 = some gx) (c2 : h.cell r1 0 = some mx) (c3 : h.cell r2 0 = some cx)
    (i3 : h.info r3 = some (3, 1)) (hg : ES h gx es) (hm : IL h mx ml) (hc : IL h cx cl) (f : Fine n es) (M : Mtc n es ml fun _ => 1) (R : Rise n cl) (C : Covs es cl) (hl : ml.length = cl.length) :
    HCalls Try.prog 46 #[.pointer (some ⟨r, 0, none⟩), .pointer (some ⟨r1, 0, none⟩), .pointer (some ⟨r2, 0, none⟩), .pointer (some ⟨r3, 0, none⟩)] h fun e h' => e = .returned (.tuple #[]) ∧ ∃ h1, Le h h1 ∧ h' = h1.set r3 0 (.int .i64 ml.length) := by
  apply H46
  unfold F46
  have n1 := f.n1
  have m1 := f.m
  simp [c0, c1]
  refine CALL_mk en47 (right_ok hg f) ?_
  rintro e h1 ⟨rfl, l1⟩
  simp [l1.cell _ _ _ c0, l1.cell _ _ _ c1, l1.cell _ _ _ c2]
  refine CALL_mk en48 (matched_ok (hg.le l1) (hm.le l1) f M fun v h1 K E hv l k => ?_) ?_
  · simp only [CL]
    refine CALL_mk en49 (H49 (R := fun e h' => e = .returned (.int .i64 1) ∧ h' = h1) (by simp [F49])) ?_
    rintro e h2 ⟨rfl, rfl⟩
    exact k _ (Le.refl _)
  rintro e h2 ⟨rfl, l2⟩
  have L2 := l1.trans l2
  simp [L2.cell _ _ _ c0, L2.cell _ _ _ c3]
  refine CALL_mk en50 (marked_ok (hc.le L2) R (by omega)) ?_
  rintro e h3 ⟨b, rfl, l3, _, b3⟩
  have L3 := L2.trans l3
  obtain ⟨Ag, cg, rfl, hcap, hgc⟩ := hg.shape
  simp [L3.cell _ _ _ c1]
  obtain ⟨I, hI⟩ : ∃ I : Nat → List Value → Heap → Prop, ∀ m xs h4, I m xs h4 ↔ ∃ j : Nat, xs = [.int .i64 j] ∧ j ≤ es.length ∧ m = es.length - j ∧ Le h3 h4 := ⟨_, fun _ _ _ => Iff.rfl⟩
  refine ⟨I, ⟨_, (hI _ _ _).2 ⟨0, rfl, by omega, rfl, Le.refl _⟩⟩, ?_⟩
  intro m X h4 hI1
  obtain ⟨j, hX, hj, rfl, l4⟩ := (hI _ _ _).1 hI1
  simp only [List.cons.injEq, and_true] at hX
  simp only [hX]
  have L4 := L3.trans l4
  have w1 : IntKind.i64.wrap ((j : Int) + 1) = ((j + 1 : Nat) : Int) := by rw [wrap_in (by omega) (by omega)]; rfl
  simp
  refine ⟨fun hlt => ?_, fun hge => ?_⟩
  · have he := List.getElem?_eq_getElem hlt
    obtain ⟨b', o, rfl, e0, e1, e2, e3⟩ := hgc j _ he
    generalize he' : es[j] = e at e0 e1 e2 e3 he
    have hin := (f.ok j e he).1
    unfold RE.inn at hin
    have hC := C j e he
    simp [hlt, L4.cell _ _ _ e0, L4.cell _ _ _ e1, L4.cell _ _ _ e2, L4.cell _ _ _ e3]
    intro q hq
    simp [setL_cons]
    obtain ⟨h5, hh5⟩ : ∃ h5, h5 = ((((h4.new q #[.int .i64 0, .int .i64 0, .int .i64 0, .int .i64 0] 40).set q 0 (.int .i64 e.u)).set q 1 (.int .i64 e.v)).set q 2 (.int .i64 e.cap)).set q 3 (.int .i64 e.cost) := ⟨_, rfl⟩
    have l5 : Le h4 h5 := by rw [hh5]; exact (((((Heap.le_new hq _ _).set_fresh hq _ _).set_fresh hq _ _).set_fresh hq _ _).set_fresh hq _ _)
    have d0 : h5.cell q 0 = some (.int .i64 e.u) := by rw [hh5]; simp
    have d1 : h5.cell q 1 = some (.int .i64 e.v) := by rw [hh5]; simp
    rw [← hh5]
    clear hh5
    refine CALL_mk en52 (loop_c h5 e) ?_
    rintro en h6 ⟨rfl, l6⟩
    have fin : ∃ m', m' < es.length - j ∧ I m' [.int .i64 (IntKind.i64.wrap ((j : Int) + 1))] h6 := ⟨_, by omega, (hI _ _ _).2 ⟨j + 1, by rw [w1], by omega, rfl, (l4.trans l5).trans l6⟩⟩
    have b6 := b3.le ((l4.trans l5).trans l6)
    obtain ⟨u, hu⟩ : ∃ u : Nat, e.u = u := ⟨e.u.toNat, by omega⟩
    obtain ⟨v, hv⟩ : ∃ v : Nat, e.v = v := ⟨e.v.toNat, by omega⟩
    have hun : (u : Int) < (n : Int) := by omega
    have hvn : (v : Int) < (n : Int) := by omega
    rw [hu, hv] at hC
    simp at hC
    simp [l6.cell _ _ _ d0, l6.cell _ _ _ d1, hu, hv, hun, hvn, b6.cell u (by omega), b6.cell v (by omega)]
    refine ⟨fun _ => need_t _ _ fin, fun hne => ⟨fun _ => need_t _ _ fin, fun hnu => ?_⟩⟩
    have : v ∈ cl := by
      rcases hC with h | h | h
      · exact absurd h hne
      · exact absurd h hnu
      · exact h
    simp [this]
    exact need_t _ _ fin
  · obtain ⟨A, c, rfl, _⟩ := hm
    obtain ⟨A', c', rfl, _⟩ := hc
    simp [L4.cell _ _ _ c2, L4.cell _ _ _ c3, hl]
    refine need_t _ _ ?_
    simp [L4.cell _ _ _ c2, can_info (L4.info _ _ i3)]
    exact ⟨_, L4, by rw [hl]⟩

theorem en45 : entersB Try.prog 45 := ⟨_, Try.func45, by kernel_rfl, by kernel_rfl⟩

theorem covered_ok {h : Heap} {n : Nat} {gx mx cx : Value} {es : List RE} {ml cl : List Nat} (hg : ES h gx es) (hm : IL h mx ml) (hc : IL h cx cl) (f : Fine n es) (M : Mtc n es ml fun _ => 1) (R : Rise n cl) (C : Covs es cl) (hl : ml.length = cl.length) :
    HCalls Try.prog 19 #[.agg #[.int .i64 n, gx], mx, cx] h fun e h' => e = .returned (.tuple #[.int .i64 ml.length, .int .i64 0]) ∧ Le h h' := by
  apply H19
  unfold F19
  intro r hr r1 hr1 r2 hr2 r3 hr3
  obtain ⟨Am, cm, hmx, _⟩ := id hm
  obtain ⟨Ac, cc, hcx, _⟩ := id hc
  have vm : Value.cells mx = #[mx] := by rw [hmx]; rfl
  have vc : Value.cells cx = #[cx] := by rw [hcx]; rfl
  have l1 : Le h (((h.new r (Value.cells (.agg #[.int .i64 n, gx])) 25).new r1 (Value.cells mx) 26).new r2 (Value.cells cx) 26) := ((Heap.le_new hr _ _).new hr1 _ _).new hr2 _ _
  have n1 : r ≠ r1 := hr1.nei (x := (25, 2)) (by simp)
  have n2 : r ≠ r2 := hr2.nei (x := (25, 2)) (by simp [n1])
  have n3 : r1 ≠ r2 := hr2.nei (x := (26, 1)) (by simp [vm])
  have n4 : r ≠ r3 := hr3.nei (x := (25, 2)) (by simp [n1, n2])
  have n5 : r1 ≠ r3 := hr3.nei (x := (26, 1)) (by simp [vm, n3])
  have n6 : r2 ≠ r3 := hr3.nei (x := (26, 1)) (by simp [vc])
  obtain ⟨S, hS⟩ : ∃ S, S = ((h.new r (Value.cells (.agg #[.int .i64 n, gx])) 25).new r1 (Value.cells mx) 26).new r2 (Value.cells cx) 26 := ⟨_, rfl⟩
  have c0 : S.cell r 0 = some (.int .i64 n) := by rw [hS]; simp [n1, n2]
  have c1 : S.cell r 1 = some gx := by rw [hS]; simp [n1, n2]
  have c2 : S.cell r1 0 = some mx := by rw [hS]; simp [n3, vm]
  have c3 : S.cell r2 0 = some cx := by rw [hS]; simp [vc]
  rw [← hS] at l1 hr3 ⊢
  clear hS
  simp
  have l2 : Le S ((S.new r3 #[.int .i64 0] 3).set r3 0 (.int .i64 0)) := (Heap.le_new hr3 _ _).set_fresh hr3 _ _
  have i3 : ((S.new r3 #[.int .i64 0] 3).set r3 0 (.int .i64 0)).info r3 = some (3, 1) := by simp
  generalize (S.new r3 #[.int .i64 0] 3).set r3 0 (.int .i64 0) = H at l2 i3
  refine CALL_mk en45 (look_c (Q := fun c h' => c = 0 ∧ Le S h' ∧ h'.cell r3 0 = some (.int .i64 ml.length)) en46 fun q hq => ?_) ?_
  · have l3 := l2.new hq #[.int .i64 0] 27
    have hne : r3 ≠ q := hq.nei i3
    have L := l1.trans l3
    refine (cov1_c (l3.cell _ _ _ c0) (l3.cell _ _ _ c1) (l3.cell _ _ _ c2) (l3.cell _ _ _ c3) (by simpa [hne] using i3) (hg.le L) (hm.le L) (hc.le L) f M R C hl).mono ?_
    rintro e h' ⟨rfl, h1, l4, rfl⟩
    refine ⟨by simpa using l4.info q (27, 1) (by simp), ?_, 0, .inl ⟨rfl, _, rfl⟩, fun h2 l5 => ⟨rfl, ?_, ?_⟩⟩
    · rw [set_cell_nb _ _ _ _ hne.symm]
      exact l4.cell q 0 _ (by simp)
    · refine (le_drop (b := q) ((l3.trans l4).set_fresh hr3 0 (.int .i64 ml.length)) (hq.le l2)).trans l5
    · exact l5.cell _ _ _ (by simp [Heap.drop, hne])
  · rintro e h' ⟨c, rfl, rfl, l3, hcell⟩
    simp [hcell]
    exact l1.trans l3

end Go.Proofs.Ythchjolcjicpgaa
