/- Whole slices appended, and copied. -/
import Derived.Test.YthchjolcjicpgaaGrow
namespace Go.HW

theorem setL_run {b N : Nat} {t : TypeId} (l : List Value) : ∀ (o k : Nat) (h : Heap), h.info b = some (t, N) → o + k + l.length ≤ N → (∀ v, v ∈ l → oneVal v = true) →
    ∃ h', setL h ⟨b, o, none⟩ k l = some h' ∧ h'.info = h.info ∧ ∀ b' i, h'.cell b' i = if b' = b ∧ o + k ≤ i ∧ i < o + k + l.length then l[i - (o + k)]? else h.cell b' i := by
  induction l with
  | nil =>
    intro o k h _ _ _
    refine ⟨h, rfl, rfl, fun b' i => ?_⟩
    rw [if_neg (by simp only [List.length_nil]; omega)]
  | cons v l ih =>
    intro o k h hi hN hv
    simp only [List.length_cons] at hN
    have hc : h.canB b (o + k) = true := by rw [can_info hi]; exact decide_eq_true (by omega)
    obtain ⟨h', e, i', c'⟩ := ih o (k + 1) (h.set b (o + k) v) (by simpa using hi) (by omega) fun w hw => hv w (by simp [hw])
    refine ⟨h', ?_, by rw [i']; rfl, fun b' i => ?_⟩
    · simp only [setL, add_plain, hv v (by simp), true_and, hc, if_true]
      exact e
    · rw [c']
      by_cases hb : b' = b
      · subst hb
        simp only [true_and, set_cell_here, List.length_cons]
        by_cases h1 : i = o + k
        · subst h1
          rw [if_neg (by omega), if_pos rfl, if_pos (by omega)]
          simp
        · by_cases h2 : o + (k + 1) ≤ i ∧ i < o + (k + 1) + l.length
          · rw [if_pos h2, if_pos (by omega), show i - (o + k) = (i - (o + (k + 1))) + 1 by omega]
            simp
          · rw [if_neg h2, if_neg h1, if_neg (by omega)]
      · simp [hb, set_cell_nb]

theorem IL.src {h : Heap} {x : Value} {l : List Nat} (g : IL h x l) : srcV h 1 x = some (l.length, l.map fun (i : Nat) => Value.int .i64 i) := by
  obtain ⟨A, c, rfl, hi⟩ := g
  cases l with
  | nil =>
    cases A with
    | none => simp [srcV]
    | some a => simp [srcV, cellsL]
  | cons v l =>
    obtain ⟨b, o, rfl, _⟩ := hi 0 v rfl
    simp only [srcV, Nat.mul_one]
    rw [cellsL_known (v :: l) o 0 (fun j i hj => by
      obtain ⟨b', o', e, hc⟩ := hi j i hj
      cases e
      rw [Nat.zero_add]; exact hc)]
    rfl

theorem AP_app {T : TT} {t e : TypeId} {S h : Heap} {x y : Value} {l l2 : List Nat} {bk : Option Nat} {K : Value → Heap → Prop} (hT : elemT T t = some (e, ⟨.int .i64, 1, 8, #[.int .i64 0]⟩))
    (g : GL e S h False x l bk) (g2 : IL h y l2) (ls : Le S h) (hl : l.length + l2.length < 1000000000)
    (hK : ∀ x' h' bk', GL e S h' False x' (l ++ l2) bk' → Le S h' → (bk' = bk ∨ ∃ r, bk' = some r ∧ h.fresh r) → Keep (fun b => bk' ≠ some b) h h' → K x' h') :
    AP T t x y K h := by
  obtain ⟨A, cx, hx, hlc⟩ := g.shape
  simp only [AP, hT, PV_some, hx]
  rw [g2.src, PV_some]
  refine ⟨rfl, by omega, fun h => by have := nextcap_le h; omega, fun hle => ?_, fun hgt => ?_⟩
  · cases bk with
    | none =>
      obtain ⟨rfl, rfl⟩ := g
      cases hx
      have : l2 = [] := List.eq_nil_of_length_eq_zero (by simp at hle; simpa using hle)
      subst this
      exact hK _ h none (GL.nil _ _ _ _) ls (.inl rfl) (Keep.refl _ h)
    | some b =>
      obtain ⟨f, c', rfl, hc, hi, h1, h2⟩ := g
      cases hx
      simp only [add_plain, Nat.mul_one, Nat.zero_add]
      obtain ⟨h', e, i', c'⟩ := setL_run (l2.map fun (i : Nat) => Value.int .i64 i) l.length 0 h hi (by simpa using hle) (by
        intro v hv
        obtain ⟨i, _, rfl⟩ := List.mem_map.1 hv
        rfl)
      rw [e, PV_some]
      simp only [Nat.add_zero, List.length_map] at c'
      refine hK _ _ (some b) ⟨f, cx, by simp, by simpa using hle, by rw [i']; exact hi, fun j i hj => ?_, fun h => h.elim⟩ ⟨fun b' i v hv => ?_, fun b' x hx => by rw [i']; exact ls.info _ _ hx⟩ (.inl rfl) ?_
      · rw [c']
        have hj' := (List.getElem?_eq_some_iff.1 hj).1
        simp at hj'
        rcases Nat.lt_or_ge j l.length with hlt | hge
        · rw [if_neg (by omega)]
          exact h1 j i (by rw [List.getElem?_append_left hlt] at hj; exact hj)
        · rw [if_pos ⟨rfl, hge, by omega⟩]
          rw [List.getElem?_append_right hge] at hj
          simp [hj]
      · have : b' ≠ b := f.ne hv
        rw [c', if_neg (fun h => this h.1)]
        exact ls.cell _ _ _ hv
      · intro b' hb _
        have : b' ≠ b := fun e => hb (by rw [e])
        exact ⟨fun i => by rw [c', if_neg (fun h => this h.1)], by rw [i']⟩
  · have e2 : srcV h 1 (.slice A l.length cx) = some (l.length, l.map fun (i : Nat) => Value.int .i64 i) := by
      rw [← hx]; exact g.il.src
    rw [e2, PV_some]
    intro r' c' hf hc'
    have e3 : (l.map (fun (i : Nat) => Value.int .i64 (i : Int)) ++ l2.map (fun (i : Nat) => Value.int .i64 (i : Int))) = (l ++ l2).map (fun (i : Nat) => Value.int .i64 (i : Int)) := by simp
    rw [e3]
    have c1 : ∀ j, (h.newP r' ((l ++ l2).map (fun (i : Nat) => Value.int .i64 i)) e (c' * 1)).cell r' j = ((l ++ l2).map (fun (i : Nat) => Value.int .i64 i))[j]? := fun j => by simp [Heap.newP]
    have L : Le h (h.newP r' ((l ++ l2).map (fun (i : Nat) => Value.int .i64 i)) e (c' * 1)) := by
      refine ⟨fun b i v hv => ?_, fun b v hv => ?_⟩
      · have : b ≠ r' := hf.ne hv
        simp [Heap.newP, this, hv]
      · have : b ≠ r' := hf.nei hv
        simp [Heap.newP, this, hv]
    refine hK _ _ (some r') ⟨hf.le ls, c', by simp, by simpa using hc', by simp [Heap.newP], fun j i' hj => ?_, fun h => h.elim⟩ (ls.trans L) (.inr ⟨r', rfl, hf⟩) ?_
    · refine (c1 j).trans ?_
      rw [List.getElem?_map, hj]
      rfl
    · intro b' hb _
      have : b' ≠ r' := fun e => hb (by rw [e])
      simp [Heap.newP, this]

/-- A row of truths, copied over another. -/
theorem CP_bool {T : TT} {t e : TypeId} {h : Heap} {b b2 n c c2 bb : Nat} {f f2 : Nat → Bool} {z : Array Value} {d : TypeDesc} {K : Value → Heap → Prop} (hT : elemT T t = some (e, ⟨d, 1, bb, z⟩))
    (g : BA h b n f) (g2 : BA h b2 n f2) (hK : ∀ h', h'.info = h.info → (∀ b' i, ¬ (b' = b ∧ i < n) → h'.cell b' i = h.cell b' i) → BA h' b n f2 → K (.int .i64 n) h') :
    CP T t (.slice (some ⟨b, 0, none⟩) n c) (.slice (some ⟨b2, 0, none⟩) n c2) K h := by
  simp only [CP, hT, PV_some]
  have key : ∀ m, m ≤ n → cellsL h ⟨b2, 0, none⟩ (n - m) m = some ((List.range m).map fun j => Value.bool (f2 (n - m + j))) := by
    intro m
    induction m with
    | zero => intro _; rfl
    | succ m ih =>
      intro hm
      rw [cellsL_succ, show 0 + (n - (m + 1)) = n - (m + 1) by omega, g2.cell _ (by omega), show n - (m + 1) + 1 = n - m by omega]
      have := ih (by omega)
      rw [this, List.range_succ_eq_map]
      simp only [Option.bind_some, Option.map_some, List.map_cons, Nat.add_zero, List.map_map]
      congr 2
      apply List.map_congr_left
      intro j _
      simp only [Function.comp]
      congr 2
      omega
  have k0 := key n (Nat.le_refl _)
  simp only [Nat.sub_self, Nat.zero_add] at k0
  have e1 : srcV h 1 (.slice (some ⟨b2, 0, none⟩) n c2) = some (n, (List.range n).map fun j => Value.bool (f2 j)) := by
    simp only [srcV, Nat.mul_one]
    rw [k0]; rfl
  rw [e1, PV_some]
  refine ⟨Nat.le_refl _, ?_⟩
  obtain ⟨h', e, i', c'⟩ := setL_run ((List.range n).map fun j => Value.bool (f2 j)) 0 0 h g.info (by simp) (by
    intro v hv
    obtain ⟨i, _, rfl⟩ := List.mem_map.1 hv
    rfl)
  rw [e, PV_some]
  simp only [Nat.add_zero, Nat.zero_add, List.length_map, List.length_range, Nat.sub_zero, Nat.zero_le, true_and] at c'
  refine hK h' i' (fun b' i hne => by rw [c', if_neg hne]) ⟨fun i hi => ?_, by rw [i']; exact g.info⟩
  rw [c', if_pos ⟨rfl, hi⟩]
  simp [hi]

end Go.HW
