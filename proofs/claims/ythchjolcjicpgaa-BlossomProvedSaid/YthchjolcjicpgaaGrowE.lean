/- Slices of structs of four whole numbers that grow by append, over partial heaps. -/
import Derived.Test.YthchjolcjicpgaaGrow
namespace Go.HW

def eCells (e : RE) : List Value := [.int .i64 e.u, .int .i64 e.v, .int .i64 e.cap, .int .i64 e.cost]

/-- A slice of edges that grows: of block 'bk', new since 'S'; what lies behind its end is not known. -/
def GE (t : TypeId) (S h : Heap) (x : Value) (l : List RE) (bk : Option Nat) : Prop :=
  match bk with
  | none => l = [] ∧ x = .slice none 0 0
  | some b => S.fresh b ∧ ∃ c, x = .slice (some ⟨b, 0, none⟩) l.length c ∧ l.length ≤ c ∧ h.info b = some (t, c * 4) ∧
      (∀ (j : Nat) (e : RE), l[j]? = some e → h.cell b (j * 4) = some (.int .i64 e.u) ∧ h.cell b (j * 4 + 1) = some (.int .i64 e.v) ∧ h.cell b (j * 4 + 2) = some (.int .i64 e.cap) ∧ h.cell b (j * 4 + 3) = some (.int .i64 e.cost)) ∧
      (∀ j, l.length * 4 ≤ j → h.cell b j = none)

theorem GE.es {t : TypeId} {S h : Heap} {x : Value} {l : List RE} {bk : Option Nat} (g : GE t S h x l bk) : ES h x l := by
  cases bk with
  | none => obtain ⟨rfl, rfl⟩ := g; exact ⟨none, 0, rfl, by simp, fun i e h => by simp at h⟩
  | some b =>
    obtain ⟨_, c, rfl, hc, _, h1, _⟩ := g
    refine ⟨_, c, rfl, hc, fun i e he => ⟨b, 0, rfl, ?_⟩⟩
    simp only [Nat.zero_add]
    exact h1 i e he

theorem GE.keep {t : TypeId} {S h h' : Heap} {x : Value} {l : List RE} {bk : Option Nat} {P : Nat → Prop} (g : GE t S h x l bk) (k : Keep P h h') (hP : ∀ b, bk = some b → P b) : GE t S h' x l bk := by
  cases bk with
  | none => exact g
  | some b =>
    obtain ⟨f, c, rfl, hc, hi, h1, h2⟩ := g
    have a := k.of (hP b rfl) hi
    exact ⟨f, c, rfl, hc, by rw [a.2]; exact hi, fun j e hj => by rw [a.1, a.1, a.1, a.1]; exact h1 j e hj, fun j hj => by rw [a.1]; exact h2 j hj⟩

theorem GE.shape {t : TypeId} {S h : Heap} {x : Value} {l : List RE} {bk : Option Nat} (g : GE t S h x l bk) : ∃ A c, x = .slice A l.length c ∧ l.length ≤ c := by
  cases bk with
  | none => obtain ⟨rfl, rfl⟩ := g; exact ⟨none, 0, rfl, Nat.le_refl _⟩
  | some b => obtain ⟨_, c, rfl, hc, _⟩ := g; exact ⟨_, c, rfl, hc⟩

theorem ne_push2 {S : Heap} {h : Heap} {b : Nat} {bk bk' : Option Nat} {y : TypeId × Nat} (h1 : bk ≠ some b) (hb : h.info b = some y) (hk : bk' = bk ∨ ∃ r, bk' = some r ∧ h.fresh r) : bk' ≠ some b := by
  rcases hk with rfl | ⟨r, rfl, hr⟩
  · exact h1
  · exact fun e => hr.nei hb (by cases e; rfl)

/-- The cells that are known, said as a list. -/
theorem cellsL_edges {h : Heap} {b : Nat} (l : List RE) : ∀ (o k : Nat), (∀ (j : Nat) (e : RE), l[j]? = some e → h.cell b (o + (k + j * 4)) = some (.int .i64 e.u) ∧ h.cell b (o + (k + j * 4) + 1) = some (.int .i64 e.v) ∧ h.cell b (o + (k + j * 4) + 2) = some (.int .i64 e.cap) ∧ h.cell b (o + (k + j * 4) + 3) = some (.int .i64 e.cost)) →
    cellsL h ⟨b, o, none⟩ k (l.length * 4) = some (l.flatMap eCells) := by
  induction l with
  | nil => intro o k _; rfl
  | cons x l ih =>
    intro o k hk
    have h0 := hk 0 x rfl
    simp only [Nat.zero_mul, Nat.add_zero] at h0
    obtain ⟨a0, a1, a2, a3⟩ := h0
    rw [List.length_cons, Nat.succ_mul, cellsL_succ, cellsL_succ, cellsL_succ, cellsL_succ]
    rw [a0, show o + (k + 1) = o + k + 1 by omega, a1, show o + (k + 1 + 1) = o + k + 2 by omega, a2, show o + (k + 1 + 1 + 1) = o + k + 3 by omega, a3]
    rw [show k + 1 + 1 + 1 + 1 = k + 4 by omega, ih o (k + 4) (fun j e hj => by
      have := hk (j + 1) e (by simpa using hj)
      rw [show k + 4 + j * 4 = k + (j + 1) * 4 by omega]; exact this)]
    rfl

theorem flat_len (l : List RE) : (l.flatMap eCells).length = l.length * 4 := by
  induction l with
  | nil => rfl
  | cons a l ih => simp [eCells, ih]; omega

theorem flat_at (l : List RE) : ∀ (j : Nat) (e : RE), l[j]? = some e → (l.flatMap eCells)[j * 4]? = some (.int .i64 e.u) ∧ (l.flatMap eCells)[j * 4 + 1]? = some (.int .i64 e.v) ∧ (l.flatMap eCells)[j * 4 + 2]? = some (.int .i64 e.cap) ∧ (l.flatMap eCells)[j * 4 + 3]? = some (.int .i64 e.cost) := by
  induction l with
  | nil => intro j e h; simp at h
  | cons a l ih =>
    intro j e h
    cases j with
    | zero => simp at h; subst h; simp [eCells]
    | succ j =>
      have := ih j e (by simpa using h)
      have e0 : (j + 1) * 4 = j * 4 + 4 := by omega
      simp only [List.flatMap_cons]
      rw [e0]
      have hl : (eCells a).length = 4 := rfl
      refine ⟨?_, ?_, ?_, ?_⟩
      · rw [List.getElem?_append_right (by omega), hl, show j * 4 + 4 - 4 = j * 4 by omega]; exact this.1
      · rw [List.getElem?_append_right (by omega), hl, show j * 4 + 4 + 1 - 4 = j * 4 + 1 by omega]; exact this.2.1
      · rw [List.getElem?_append_right (by omega), hl, show j * 4 + 4 + 2 - 4 = j * 4 + 2 by omega]; exact this.2.2.1
      · rw [List.getElem?_append_right (by omega), hl, show j * 4 + 4 + 3 - 4 = j * 4 + 3 by omega]; exact this.2.2.2

theorem AP_edge {T : TT} {t te : TypeId} {d : TypeDesc} {z : Array Value} {S h : Heap} {x : Value} {l : List RE} {bk : Option Nat} {e : RE} {r c : Nat} {K : Value → Heap → Prop} (hT : elemT T t = some (te, ⟨d, 4, 32, z⟩)) (hz : z.size = 4)
    (g : GE te S h x l bk) (ls : Le S h) (hl : l.length * 32 ≤ 140737488355328) (hr : h.cell r 0 = some (.int .i64 e.u) ∧ h.cell r 1 = some (.int .i64 e.v) ∧ h.cell r 2 = some (.int .i64 e.cap) ∧ h.cell r 3 = some (.int .i64 e.cost))
    (hK : ∀ x' h' bk', GE te S h' x' (l ++ [e]) bk' → Le S h' → Le h h' → (bk' = bk ∨ ∃ r, bk' = some r ∧ h.fresh r) → Keep (fun b => bk' ≠ some b) h h' → K x' h') :
    AP T t x (.slice (some ⟨r, 0, none⟩) 1 c) K h := by
  have shp : ∃ A cx, x = .slice A l.length cx ∧ l.length ≤ cx := by
    cases bk with
    | none => obtain ⟨rfl, rfl⟩ := g; exact ⟨none, 0, rfl, Nat.le_refl _⟩
    | some b => obtain ⟨_, c, rfl, hc, _⟩ := g; exact ⟨_, c, rfl, hc⟩
  obtain ⟨A, cx, hx, hlc⟩ := shp
  simp only [AP, hT, PV_some, hx]
  have e1 : srcV h 4 (.slice (some ⟨r, 0, none⟩) 1 c) = some (1, eCells e) := by simp [srcV, hr, eCells]
  rw [e1, PV_some]
  refine ⟨hz, by omega, fun h => ?_, fun hle => ?_, fun hgt => ?_⟩
  · have h' : cx < l.length + 1 := h
    obtain rfl : cx = l.length := by omega
    have := nextcap_one (cap := l.length)
    show Builtin.nextslicecap (l.length + 1) l.length * 32 ≤ _
    omega
  · cases bk with
    | none =>
      obtain ⟨rfl, rfl⟩ := g
      cases hx
      simp at hle
    | some b =>
      obtain ⟨f, c', rfl, hc, hi, h1, h2⟩ := g
      cases hx
      have can : ∀ k, k < 4 → h.canB b (l.length * 4 + k) = true := fun k hk => by rw [can_info hi, decide_eq_true (by omega)]
      have c0 := can 0 (by omega)
      have c1 := can 1 (by omega)
      have c2 := can 2 (by omega)
      have c3 := can 3 (by omega)
      simp only [Nat.add_zero] at c0
      simp only [add_plain, Nat.zero_add, eCells, setL_cons, setL_nil, set_can, Nat.add_zero, Nat.reduceAdd]
      simp only [oneVal_int, c0, c1, c2, c3, and_self, if_true, PV_some]
      obtain ⟨h', hh'⟩ : ∃ h', h' = (((h.set b (l.length * 4) (.int .i64 e.u)).set b (l.length * 4 + 1) (.int .i64 e.v)).set b (l.length * 4 + 2) (.int .i64 e.cap)).set b (l.length * 4 + 3) (.int .i64 e.cost) := ⟨_, rfl⟩
      have hcell : ∀ j, h'.cell b j = if j = l.length * 4 + 3 then some (.int .i64 e.cost) else if j = l.length * 4 + 2 then some (.int .i64 e.cap) else if j = l.length * 4 + 1 then some (.int .i64 e.v) else if j = l.length * 4 then some (.int .i64 e.u) else h.cell b j := fun j => by rw [hh']; simp only [set_cell_here]
      have hoth : ∀ b' j, b' ≠ b → h'.cell b' j = h.cell b' j := fun b' j hne => by rw [hh']; simp [hne]
      have hinf : ∀ b', h'.info b' = h.info b' := fun b' => by rw [hh']; rfl
      have lh : Le h h' := by
        refine ⟨fun b' i v hv => ?_, fun b' v hv => by rw [hinf]; exact hv⟩
        by_cases hb : b' = b
        · subst hb
          rw [hcell]
          by_cases hi' : l.length * 4 ≤ i
          · rw [h2 i hi'] at hv; cases hv
          · rw [if_neg (by omega), if_neg (by omega), if_neg (by omega), if_neg (by omega)]; exact hv
        · rw [hoth _ _ hb]; exact hv
      rw [← hh']
      refine hK _ _ (some b) ⟨f, cx, by simp, by simp; omega, by rw [hinf]; exact hi, fun j e' hj => ?_, fun j hj => ?_⟩ (ls.trans lh) lh (.inl rfl) fun b' hb _ => ?_
      · rcases Nat.lt_or_ge j l.length with hlt | hge
        · rw [List.getElem?_append_left hlt] at hj
          have := h1 j e' hj
          simp only [hcell]
          rw [if_neg (by omega), if_neg (by omega), if_neg (by omega), if_neg (by omega), if_neg (by omega), if_neg (by omega), if_neg (by omega), if_neg (by omega), if_neg (by omega), if_neg (by omega), if_neg (by omega), if_neg (by omega), if_neg (by omega), if_neg (by omega), if_neg (by omega), if_neg (by omega)]
          exact this
        · rw [List.getElem?_append_right hge] at hj
          have hj0 : j - l.length = 0 := by
            rcases Nat.eq_zero_or_pos (j - l.length) with h | h
            · exact h
            · rw [List.getElem?_eq_none (by simp; omega)] at hj; cases hj
          rw [hj0] at hj
          simp at hj
          subst hj
          have : j = l.length := by omega
          subst this
          simp only [hcell]
          refine ⟨?_, ?_, ?_, ?_⟩
          · rw [if_neg (by omega), if_neg (by omega), if_neg (by omega)]; simp
          · rw [if_neg (by omega), if_neg (by omega)]; simp
          · rw [if_neg (by omega)]; simp
          · simp
      · simp at hj
        rw [hcell, if_neg (by omega), if_neg (by omega), if_neg (by omega), if_neg (by omega)]
        exact h2 j (by omega)
      · have : b' ≠ b := fun e => hb (by rw [e])
        exact ⟨fun i => hoth _ _ this, hinf _⟩
  · have e2 : srcV h 4 (.slice A l.length cx) = some (l.length, l.flatMap eCells) := by
      cases bk with
      | none => obtain ⟨rfl, rfl⟩ := g; cases hx; rfl
      | some b =>
        obtain ⟨f, c', rfl, hc, hi, h1, h2⟩ := g
        cases hx
        simp only [srcV]
        rw [cellsL_edges l 0 0 (fun j e hj => by simpa using h1 j e hj)]
        rfl
    rw [e2, PV_some]
    intro r' c' hf hc'
    have c1 : ∀ j, (h.newP r' (l.flatMap eCells ++ eCells e) te (c' * 4)).cell r' j = (l.flatMap eCells ++ eCells e)[j]? := fun j => by simp [Heap.newP]
    have efl : l.flatMap eCells ++ eCells e = (l ++ [e]).flatMap eCells := by simp
    have L : Le h (h.newP r' (l.flatMap eCells ++ eCells e) te (c' * 4)) := by
      refine ⟨fun b i v hv => ?_, fun b v hv => ?_⟩
      · have : b ≠ r' := hf.ne hv
        simp [Heap.newP, this, hv]
      · have : b ≠ r' := hf.nei hv
        simp [Heap.newP, this, hv]
    refine hK _ _ (some r') ⟨hf.le ls, c', by simp, by simpa using hc', by simp [Heap.newP], fun j e' hj => ?_, fun j hj => ?_⟩ (ls.trans L) L (.inr ⟨r', rfl, hf⟩) ?_
    · rw [c1, c1, c1, c1, efl]
      exact flat_at _ j e' hj
    · rw [c1, efl]
      exact List.getElem?_eq_none (by rw [flat_len]; exact hj)
    · intro b' hb _
      have : b' ≠ r' := fun e => hb (by rw [e])
      simp [Heap.newP, this]

end Go.HW
