/- The law file of layer 15: path, awake, ints. -/
import Derived.Test.YthchjolcjicpgaaCSolve
namespace Go.Proofs.Ythchjolcjicpgaa
open Go.HW Pair

/-- The edges of path(). -/
def pathE : List RE := [⟨0, 2, 0, 0⟩, ⟨2, 1, 0, 0⟩, ⟨1, 3, 0, 0⟩]

theorem path_c (h : Heap) : HCalls Try.prog 41 #[] h fun e h' => Le h h' ∧ ∃ x, e = .returned (.agg #[.int .i64 4, x]) ∧ ES h' x pathE := by
  apply H41
  unfold F41
  intro r hr
  have l1 := Heap.le_new hr #[.int .i64 0, .slice none 0 0] 25
  have hi : (h.new r #[.int .i64 0, .slice none 0 0] 25).info r = some (25, 2) := by simp
  generalize h.new r #[.int .i64 0, .slice none 0 0] 25 = h1 at l1 hi
  simp
  intro r2 hr2
  have hne : r ≠ r2 := hr2.nei hi
  have l2 := l1.new hr2 #[.int .i64 0, .int .i64 2, .int .i64 0, .int .i64 0, .int .i64 2, .int .i64 1, .int .i64 0, .int .i64 0, .int .i64 1, .int .i64 3, .int .i64 0, .int .i64 0] 40
  simp [setL_cons, can_info hi, hne]
  refine ⟨(l2.set_fresh hr _ _).set_fresh hr _ _, ⟨_, _, rfl, by simp [pathE], fun i e he => ⟨r2, 0, rfl, ?_⟩⟩⟩
  have hne' := hne.symm
  match i, he with
  | 0, he => cases he; simp [hne']
  | 1, he => cases he; simp [hne']
  | 2, he => cases he; simp [hne']
  | i + 3, he => simp [pathE] at he

theorem path_two : Two 4 2 pathE := by
  refine ⟨⟨by omega, by omega, by simp [pathE], fun i e he => ?_⟩, by omega, by omega, fun i e he => ?_⟩
  · match i, he with
    | 0, he => cases he; simp [RE.inn, RE.lab]
    | 1, he => cases he; simp [RE.inn, RE.lab]
    | 2, he => cases he; simp [RE.inn, RE.lab]
    | i + 3, he => simp [pathE] at he
  · match i, he with
    | 0, he => cases he; simp
    | 1, he => cases he; simp
    | 2, he => cases he; simp
    | i + 3, he => simp [pathE] at he

theorem two_mem {l : List Nat} {a b : Nat} (ha : a ∈ l) (hb : b ∈ l) (h : a ≠ b) : 2 ≤ l.length := by
  match l, ha, hb with
  | [], ha, _ => simp at ha
  | [x], ha, hb => simp at ha hb; omega
  | x :: y :: l, _, _ => simp

theorem path_best {t : Two ((4 : Nat) : Int) ((2 : Nat) : Int) pathE} {ml cl : List Nat} (s : Solved (toG 4 2 pathE t) ml cl) : ml = [0, 2] ∧ cl.length = 2 := by
  have hm : (toG 4 2 pathE t).m = 3 := rfl
  have L0 : (toG 4 2 pathE t).L 0 = 0 := rfl
  have L1 : (toG 4 2 pathE t).L 1 = 1 := rfl
  have L2 : (toG 4 2 pathE t).L 2 = 1 := rfl
  have R0 : (toG 4 2 pathE t).R 0 = 2 := rfl
  have R1 : (toG 4 2 pathE t).R 1 = 2 := rfl
  have R2 : (toG 4 2 pathE t).R 2 = 3 := rfl
  have c0 := s.cov 0 (by rw [hm]; omega)
  have c2 := s.cov 2 (by rw [hm]; omega)
  rw [L0, R0] at c0
  rw [L2, R2] at c2
  have h2 : 2 ≤ cl.length := by
    rcases c0 with a | a <;> rcases c2 with b | b <;> exact two_mem a b (by omega)
  have n01 : ¬ (0 ∈ ml ∧ 1 ∈ ml) := fun h => by have := s.mone 0 1 h.1 h.2 (.inr (by rw [R0, R1])); omega
  have n12 : ¬ (1 ∈ ml ∧ 2 ∈ ml) := fun h => by have := s.mone 1 2 h.1 h.2 (.inl (by rw [L1, L2])); omega
  have lt := s.mlt
  rw [hm] at lt
  have srt := s.msort
  have len := s.len
  rw [len] at h2 ⊢
  clear s
  match ml, h2 with
  | [a, b], _ =>
    have ha := lt a (by simp)
    have hb := lt b (by simp)
    simp at srt n01 n12
    refine ⟨?_, rfl⟩
    have : a = 0 ∧ b = 2 := by omega
    rw [this.1, this.2]
  | a :: b :: c :: l, _ =>
    have ha := lt a (by simp)
    have hb := lt b (by simp)
    have hc := lt c (by simp)
    simp at srt n01 n12
    omega

theorem awake15_c (h : Heap) : HCalls Try.prog 15 #[] h fun e h' => Le h h' ∧ e = .returned (.bool true) := by
  apply H15
  unfold F15
  obtain ⟨I, hI⟩ : ∃ I : Nat → List Value → Heap → Prop, ∀ m xs h1, I m xs h1 ↔ ∃ k : Nat, xs = [.int .i64 k] ∧ 1 ≤ k ∧ k ≤ 3 ∧ m = 3 - k ∧ Le h h1 := ⟨_, fun _ _ _ => Iff.rfl⟩
  refine ⟨I, ⟨_, (hI _ _ _).2 ⟨1, rfl, by omega, by omega, rfl, Le.refl _⟩⟩, ?_⟩
  intro m X h1 hI1
  obtain ⟨k, hX, k1, k2, rfl, l1⟩ := (hI _ _ _).1 hI1
  simp only [List.cons.injEq, and_true] at hX
  simp only [hX]
  have w1 : IntKind.i64.wrap ((k : Int) + 1) = ((k + 1 : Nat) : Int) := by rw [wrap_in (by omega) (by omega)]; rfl
  simp
  refine ⟨fun hle => ?_, fun hgt => ?_⟩
  · refine CALL_mk en41 (path_c h1) ?_
    rintro e h2 ⟨l2, x, rfl, hx⟩
    simp only [endR_ret]
    refine CALL_mk en16 (solve_c hx) ?_
    rintro e h3 ⟨l3, hs⟩
    have l4 := (l1.trans l2).trans l3
    rcases hs with ⟨c, a, hc, hs, rfl⟩ | ⟨_, hk, _⟩ | ⟨hk, n', left', t, xm, xc, ml, cl, bm, bc, hn, hl, rfl, gm, gc, hne, sol⟩
    · exact absurd (hs.two.2 path_two) hc
    · omega
    · have e1 : n' = 4 := by omega
      have e2 : left' = 2 := by omega
      subst e1
      subst e2
      obtain ⟨rfl, hcl⟩ := path_best sol
      obtain ⟨Am, cm, rfl, hcm⟩ := gm.il
      obtain ⟨Ac, cc, rfl, _⟩ := gc.il
      obtain ⟨b0, o0, rfl, c0⟩ := hcm 0 0 rfl
      obtain ⟨b1, o1, hb, c1⟩ := hcm 1 2 rfl
      cases hb
      simp [hcl]
      simp at c0 c1
      simp [c0, c1]
      exact ⟨_, by omega, (hI _ _ _).2 ⟨k + 1, by rw [w1], by omega, by omega, rfl, l4⟩⟩
  · refine CALL_mk en41 (path_c h1) ?_
    rintro e h2 ⟨l2, x, rfl, hx⟩
    simp only [endR_ret]
    refine CALL_mk en17 (sides_c hx) ?_
    rintro e h3 ⟨c, a, rfl, l3, hs⟩
    have hsame := hs.same (c' := 140) (a' := 1) (.inr (.inr (.inl ⟨path_two.fine, by omega, rfl, 1, ⟨2, 1, 0, 0⟩, rfl, rfl, by simp, fun k e hk he => by
      obtain rfl : k = 0 := by omega
      cases he; simp⟩)))
    rw [hsame.1, hsame.2]
    simp
    exact (l1.trans l2).trans l3

theorem ints15_c {h : Heap} {x y : Value} {l l' : List Nat} (hx : IL h x l) (hy : IL h y l') (hl : l.length < 1000000000) : HCalls Try.prog 18 #[x, y] h fun e h' => h' = h ∧ e = .returned (.bool (decide (l = l'))) := by
  apply H18
  unfold F18
  obtain ⟨A, c, rfl, hA⟩ := hx
  obtain ⟨A', c', rfl, hA'⟩ := hy
  simp
  refine ⟨fun hne => fun e => hne (by rw [e]), fun hlen => ?_⟩
  obtain ⟨I, hI⟩ : ∃ I : Nat → List Value → Heap → Prop, ∀ m xs h1, I m xs h1 ↔ ∃ k : Nat, xs = [.int .i64 k] ∧ k ≤ l.length ∧ m = l.length - k ∧ h1 = h ∧ ∀ j, j < k → l[j]? = l'[j]? := ⟨_, fun _ _ _ => Iff.rfl⟩
  refine ⟨I, ⟨_, (hI _ _ _).2 ⟨0, rfl, by omega, rfl, rfl, by simp⟩⟩, ?_⟩
  intro m X h1 hI1
  obtain ⟨k, hX, k2, rfl, rfl, hk⟩ := (hI _ _ _).1 hI1
  simp only [List.cons.injEq, and_true] at hX
  simp only [hX]
  have w1 : IntKind.i64.wrap ((k : Int) + 1) = ((k + 1 : Nat) : Int) := by rw [wrap_in (by omega) (by omega)]; rfl
  simp
  refine ⟨fun hlt => ?_, fun hge => ?_⟩
  · have hlt' : k < l'.length := by omega
    obtain ⟨b, o, rfl, h1⟩ := hA k _ (List.getElem?_eq_getElem hlt)
    obtain ⟨b', o', rfl, h2⟩ := hA' k _ (List.getElem?_eq_getElem hlt')
    simp [hlt, hlt', h1, h2]
    refine ⟨fun hne e => hne (by subst e; rfl), fun he => ⟨_, ?_, (hI _ _ _).2 ⟨k + 1, by rw [w1], by omega, rfl, rfl, fun j hj => ?_⟩⟩⟩
    · omega
    · by_cases e : j = k
      · subst e
        rw [List.getElem?_eq_getElem hlt, List.getElem?_eq_getElem hlt']
        congr 1
        omega
      · exact hk j (by omega)
  · apply List.ext_getElem?
    intro j
    by_cases e : j < k
    · exact hk j e
    · rw [List.getElem?_eq_none (by omega), List.getElem?_eq_none (by omega)]

end Go.Proofs.Ythchjolcjicpgaa
