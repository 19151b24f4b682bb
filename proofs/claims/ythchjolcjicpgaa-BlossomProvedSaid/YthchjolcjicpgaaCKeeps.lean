/- PairKeeps, as a contract. -/
import Derived.Test.YthchjolcjicpgaaCProved
import Derived.Test.YthchjolcjicpgaaCCopy
import Derived.Test.YthchjolcjicpgaaWipe
namespace Go.Proofs.Ythchjolcjicpgaa
open Go.HW Pair

/-- A loop that lays one number into all places of a slice. -/
theorem wipe {h : Heap} {x : Value} {len : Nat} {P : Nat → Prop} (g : W3 h x len P) (hl : len < 1000000000) {G : Heap → Prop} (hG : ∀ h', Wiped P h h' → G h') {k : Nat} :
    PV (lenV T 26 x) fun n => ∃ I : Nat → List Value → Heap → Prop, (∃ m, I m [.int .i64 0] h) ∧ ∀ m (Y : Tm) h1, I m [Y k] h1 → PV (binV T .lss 3 (Y k) n) fun t => ifV t
      (PV (ixV T 26 x (Y k)) fun p => PV (stV T 3 p (.int .i64 (-9)) h1) fun h2 => PV (binV T .add 3 (Y k) (.int .i64 1)) fun y => ∃ m', m' < m ∧ I m' [y] h2) (G h1) := by
  obtain ⟨A, c, rfl⟩ : ∃ A c, x = .slice A len c := by
    rcases g with ⟨rfl, rfl⟩ | ⟨b, c, rfl, _⟩ <;> exact ⟨_, _, rfl⟩
  simp
  obtain ⟨I, hI⟩ : ∃ I : Nat → List Value → Heap → Prop, ∀ m xs h4, I m xs h4 ↔ ∃ j : Nat, xs = [.int .i64 j] ∧ j ≤ len ∧ m = len - j ∧ Wiped P h h4 := ⟨_, fun _ _ _ => Iff.rfl⟩
  refine ⟨I, ⟨_, (hI _ _ _).2 ⟨0, rfl, by omega, rfl, Wiped.refl _ _⟩⟩, ?_⟩
  intro m Y h1 hI1
  obtain ⟨j, hX, hj, rfl, wp⟩ := (hI _ _ _).1 hI1
  simp only [List.cons.injEq, and_true] at hX
  simp only [hX]
  have w1 : IntKind.i64.wrap ((j : Int) + 1) = ((j + 1 : Nat) : Int) := by rw [wrap_in (by omega) (by omega)]; rfl
  simp
  refine ⟨fun hlt => ?_, fun _ => hG _ wp⟩
  rcases g with ⟨rfl, _⟩ | ⟨b, c', hx, hle, hi, hb⟩
  · omega
  · cases hx
    have hi1 : h1.info b = some (3, c) := by rw [wp.1]; exact hi
    have hjc : j < c := by omega
    simp [hlt, can_info hi1, hjc]
    exact ⟨_, by omega, (hI _ _ _).2 ⟨j + 1, by rw [w1], by omega, rfl, wp.set hb _ _⟩⟩

theorem SolR.desc {h h' : Heap} {n left kind : Int} {es : List RE} {en : Ending} (s : SolR h n left kind es en h') : ∃ (xm xc : Value) (c : Int) (ml cl : List Nat) (bm bc : Option Nat), en = .returned (.tuple #[xm, xc, .int .i64 c]) ∧ GL 3 h h' False xm ml bm ∧ GL 3 h h' False xc cl bc ∧
    ml.length ≤ 4096 ∧ cl.length ≤ 4096 ∧ ((c ≠ 0 ∧ ml = [] ∧ cl = [] ∧ ¬ ((kind = 1 ∨ kind = 2) ∧ Two n left es)) ∨
    (c = 0 ∧ ((kind = 1 ∨ kind = 2) ∧ Two n left es) ∧ ∃ (n' left' : Nat) (t : Two n' left' es), n = n' ∧ left = left' ∧ Solved (toG n' left' es t) ml cl)) := by
  rcases s with ⟨c, a, hc, hs, rfl⟩ | ⟨t, hk, rfl⟩ | ⟨hk, n', left', t, xm, xc, ml, cl, bm, bc, rfl, rfl, rfl, gm, gc, hne, sol⟩
  · exact ⟨_, _, c, [], [], none, none, rfl, GL.nil _ _ _ _, GL.nil _ _ _ _, by simp, by simp, .inl ⟨hc, rfl, rfl, fun h => hc (hs.two.2 h.2)⟩⟩
  · exact ⟨_, _, 50, [], [], none, none, rfl, GL.nil _ _ _ _, GL.nil _ _ _ _, by simp, by simp, .inl ⟨by omega, rfl, rfl, fun h => hk h.1⟩⟩
  · have h1 := (solved_mtc sol).1.rise.len
    have h2 := t.fine.m
    exact ⟨xm, xc, 0, ml, cl, bm, bc, rfl, gm, gc, by omega, by rw [sol.len]; omega, .inr ⟨rfl, ⟨hk, t⟩, n', left', t, rfl, rfl, sol⟩⟩

theorem keeps_c {h : Heap} {n left kind : Int} {gx : Value} {es : List RE} (hg : ES h gx es) (hm : es.length * 32 ≤ 140737488355328) :
    HCalls Try.prog 5 #[.agg #[.int .i64 n, gx], .int .i64 left, .int .i64 kind] h fun e _ => e = .returned (.bool true) := by
  apply H5
  unfold F5
  intro r hr
  have l1 := Heap.le_new hr (Value.cells (.agg #[.int .i64 n, gx])) 25
  have c0 : (h.new r (Value.cells (.agg #[.int .i64 n, gx])) 25).cell r 0 = some (.int .i64 n) := by simp
  have c1 : (h.new r (Value.cells (.agg #[.int .i64 n, gx])) 25).cell r 1 = some gx := by simp
  generalize h.new r (Value.cells (.agg #[.int .i64 n, gx])) 25 = S at l1 c0 c1
  have hg := hg.le l1
  refine CALL_mk en15 (awake15_c S) ?_
  rintro e h1 ⟨l2, rfl⟩
  simp [l2.cell _ _ _ c0, l2.cell _ _ _ c1]
  refine CALL_mk en20 (copy_c (hg.le l2) hm) ?_
  rintro e h2 ⟨l3, x1, bk, rfl, ge⟩
  have L3 := l2.trans l3
  simp
  intro r1 hr1
  have hbr : bk ≠ some r1 := by
    rintro rfl
    obtain ⟨_, c, _, _, hi, _⟩ := ge
    exact hr1.nei hi rfl
  obtain ⟨A1, k1, rfl, hk1⟩ := ge.shape
  simp [setL_cons]
  obtain ⟨h3, hh3⟩ : ∃ h3, h3 = ((h2.new r1 #[.int .i64 0, .slice none 0 0] 25).set r1 0 (.int .i64 n)).set r1 1 (.slice A1 es.length k1) := ⟨_, rfl⟩
  have l4 : Le h2 h3 := by rw [hh3]; exact ((Heap.le_new hr1 _ _).set_fresh hr1 _ _).set_fresh hr1 _ _
  have i1 : h3.info r1 = some (25, 2) := by rw [hh3]; simp
  have d0 : h3.cell r1 0 = some (.int .i64 n) := by rw [hh3]; simp
  have d1 : h3.cell r1 1 = some (.slice A1 es.length k1) := by rw [hh3]; simp
  have ge3 : GE 40 h1 h3 (.slice A1 es.length k1) es bk := by
    rw [hh3]
    exact ge.keep ((((Keep.refl (fun b => b ≠ r1) h2).new hr1 _ _).set (fun h => h rfl) _ _).set (fun h => h rfl) _ _) fun b hb e => hbr (by rw [hb, e])
  rw [← hh3]
  clear hh3 ge
  intro q hq
  have hq1 : r1 ≠ q := hq.nei i1
  have ge4 := ge3.keep ((Keep.refl (fun _ => True) h3).new hq #[.int .i64 0, .int .i64 0, .int .i64 (-7), .int .i64 0] 40) (fun _ _ => trivial)
  have l5 := Heap.le_new hq #[.int .i64 0, .int .i64 0, .int .i64 (-7), .int .i64 0] 40
  refine AP_edge (e := ⟨0, 0, -7, 0⟩) el_23 rfl ge4 ((l3.trans l4).trans l5) hm (by simp) ?_
  intro x2 h5 bk' ge5 _ l6 hbk kp
  refine ⟨l6, fun _ => ?_⟩
  have L34 := L3.trans l4
  have kb1 := ne_push2 (S := S) hbr (y := (25, 2)) (by simpa [hq1] using i1) hbk
  have a1 := kp.of kb1 (x := (25, 2)) (by simpa [hq1] using i1)
  have i5 : h5.info r1 = some (25, 2) := by rw [a1.2]; simpa [hq1] using i1
  cases bk' with
  | none => exact absurd ge5.1 (by simp)
  | some b =>
  obtain ⟨fb, c, rfl, hc, hib, hcells, _⟩ := ge5
  obtain ⟨Ag, cg, rfl, hcap, hgc⟩ := hg.shape
  have hbr1 : b ≠ r1 := fun e => kb1 (by rw [e])
  simp at hc
  have hsl : ∀ m l0 : Nat, m ≤ c → slV T 23 (.slice (some ⟨b, 0, none⟩) l0 c) none (some (.int .i64 m)) none = some (.slice (some ⟨b, 0, none⟩) m c) := fun m l0 hm => by
    rw [sl_hi (T := T) (t := 23) (e := 40) rfl (te := ⟨_, 4, 32, _⟩) rfl, if_pos (by omega)]
    simp
  have D5 : h5.cell r1 0 = some (.int .i64 n) := by rw [a1.1]; simpa [hq1] using d0
  simp [L34.cell _ _ _ c1, hsl es.length _ (by omega), can_info i5, D5]
  intro _
  obtain ⟨h6, hh6⟩ : ∃ h6, h6 = h5.set r1 1 (.slice (some ⟨b, 0, none⟩) es.length c) := ⟨_, rfl⟩
  have D0 : h6.cell r1 0 = some (.int .i64 n) := by rw [hh6, set_cell_here, if_neg (by omega), a1.1]; simpa [hq1] using d0
  have D1 : h6.cell r1 1 = some (.slice (some ⟨b, 0, none⟩) es.length c) := by rw [hh6]; simp
  have fr1 : h1.fresh r1 := hr1.le l3
  have L6 : Le h1 h6 := by rw [hh6]; exact (((l3.trans l4).trans l5).trans l6).set_fresh fr1 _ _
  have hb6 : ∀ i, h6.cell b i = h5.cell b i := fun i => by rw [hh6, set_cell_nb _ _ _ _ hbr1]
  have hmine : ES h6 (.slice (some ⟨b, 0, none⟩) es.length c) es := by
    refine ⟨_, c, rfl, by omega, fun i e he => ⟨b, 0, rfl, ?_⟩⟩
    simp only [Nat.zero_add, hb6]
    exact hcells i e (by rw [List.getElem?_append_left (List.getElem?_eq_some_iff.1 he).1]; exact he)
  have h7cell : h6.cell b (es.length * 4 + 2) = some (.int .i64 (-7)) := by
    rw [hb6]
    exact (hcells es.length ⟨0, 0, -7, 0⟩ (by simp)).2.2.1
  rw [← hh6]
  clear hh6 kp a1 i5 i1 d0 d1 ge4 ge3 l4 l5 l6 kb1 hcells hb6 hib hbr hq hr1 L34 L3
  have C0 := L6.cell _ _ _ (l2.cell _ _ _ c0)
  have C1 := L6.cell _ _ _ (l2.cell _ _ _ c1)
  have hg6 := hg.le (l2.trans L6)
  refine CALL_mk en16 (solve_c hmine) ?_
  rintro e h7 ⟨l7, s1⟩
  obtain ⟨xm, xc, c7, ml, cl, bm, bc, rfl, gm, gc, hml, hcl, t1⟩ := s1.desc
  simp [l7.cell _ _ _ D0, l7.cell _ _ _ D1]
  refine CALL_mk en16 (solve_c (hmine.le l7)) ?_
  rintro e h8 ⟨l8, s2⟩
  obtain ⟨xm2, xc2, c8, ml2, cl2, bm2, bc2, rfl, gm2, gc2, hml2, hcl2, t2⟩ := s2.desc
  have L8 := l7.trans l8
  have L68 := L6.trans L8
  simp
  refine JN.mk fun J hJ => ?_
  simp [L8.cell _ _ _ D0, L8.cell _ _ _ D1, L8.cell _ _ _ C0, L8.cell _ _ _ C1]
  refine CALL_mk en21 (same_ok (hmine.le L8) (hg6.le L8) hm) ?_
  rintro e h9 ⟨l9, rfl⟩
  have L9 := L8.trans l9
  have wl : IntKind.i64.wrap ((es.length : Int) + 1) = ((es.length + 1 : Nat) : Int) := by rw [wrap_in (by omega) (by omega)]; rfl
  have hsl2 : slV T 23 (.slice (some ⟨b, 0, none⟩) es.length c) none (some (.int .i64 ((es.length : Int) + 1))) none = some (.slice (some ⟨b, 0, none⟩) (es.length + 1) c) := by
    rw [show ((es.length : Int) + 1) = ((es.length + 1 : Nat) : Int) by omega]
    exact hsl (es.length + 1) _ (by omega)
  intro _
  have hlt1 : (es.length : Int) < (es.length : Int) + 1 := by omega
  simp [L9.cell _ _ _ D1, L9.cell _ _ _ C1, wl, hsl2, hlt1, L9.cell _ _ _ h7cell]
  rw [hJ]
  clear hJ J
  have kn : ∀ (b : Nat) (x : TypeId × Nat), h7.info b = some x → bm2 ≠ some b ∧ bc2 ≠ some b := by
    rintro b x hx
    constructor
    · rintro rfl
      exact gm2.1.nei hx rfl
    · rintro rfl
      exact gc2.1.nei hx rfl
  let P : Nat → Prop := fun b => bm = some b ∨ bc = some b
  have hPf : ∀ b, P b → h6.fresh b := by
    rintro b (rfl | rfl)
    · exact gm.1
    · exact gc.1
  have hPk : ∀ b, P b → bm2 ≠ some b ∧ bc2 ≠ some b := by
    rintro b (rfl | rfl)
    · obtain ⟨c, hc⟩ := gm.known
      exact kn b _ hc
    · obtain ⟨c, hc⟩ := gc.known
      exact kn b _ hc
  simp only [ifV_false]
  have gm9 := (gm.le l8).le l9
  have gc9 := (gc.le l8).le l9
  refine wipe (len := ml.length) (P := P) (gm9.w3 fun b hb => .inl hb) (by omega) fun h10 w10 => ?_
  refine wipe (len := cl.length) (P := P) ((gc9.w3 fun b hb => .inr hb).wiped w10) (by omega) fun h11 w11 => ?_
  have W := w10.trans w11
  have L11 : Le h6 h11 := W.le L9 hPf
  have gm11 := ((gm2.le l9).wiped W fun b hb hp => (hPk b hp).1 hb)
  have gc11 := ((gc2.le l9).wiped W fun b hb hp => (hPk b hp).2 hb)
  obtain ⟨A3, k3, rfl, _⟩ := gm11.shape
  obtain ⟨A4, k4, rfl, _⟩ := gc11.shape
  simp
  refine ⟨fun hne => ?_, fun h0 => ?_⟩
  · rcases t1 with ⟨_, _, _, nG⟩ | ⟨h, _⟩
    · rcases t2 with ⟨_, e1, e2, _⟩ | ⟨_, G, _⟩
      · exact ⟨fun _ => e2, e1⟩
      · exact absurd G nG
    · exact absurd h hne
  · rcases t1 with ⟨h, _⟩ | ⟨_, G, _⟩
    · exact absurd h0 h
    · rcases t2 with ⟨_, _, _, nG⟩ | ⟨_, _, n', left', t, rfl, rfl, sol⟩
      · exact absurd G nG
      · obtain ⟨M1, R1, C1', E1⟩ := solved_mtc sol
        simp [L11.cell _ _ _ C0, L11.cell _ _ _ C1]
        refine CALL_mk en19 (covered_ok (hg6.le L11) gm11.il gc11.il t.fine M1 R1 C1' E1) ?_
        rintro e h12 ⟨rfl, _⟩
        simp

end Go.Proofs.Ythchjolcjicpgaa
