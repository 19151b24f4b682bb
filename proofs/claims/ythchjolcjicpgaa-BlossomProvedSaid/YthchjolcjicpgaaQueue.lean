/- Queues of numbers: slices that are cut at their head and grow at their end. -/
import Derived.Test.YthchjolcjicpgaaGrow
namespace Go.HW

/-- A slice's value reads as these numbers; its block is new since 'S' and may be written. -/
def GQ (S h : Heap) (x : Value) (l : List Nat) (bk : Option Nat) : Prop :=
  match bk with
  | none => l = [] ∧ x = .slice none 0 0
  | some b => S.fresh b ∧ ∃ o c N, x = .slice (some ⟨b, o, none⟩) l.length c ∧ l.length ≤ c ∧ h.info b = some (3, N) ∧ o + c ≤ N ∧ ∀ (j i : Nat), l[j]? = some i → h.cell b (o + j) = some (.int .i64 i)

theorem GQ.shape {S h : Heap} {x : Value} {l : List Nat} {bk : Option Nat} (g : GQ S h x l bk) : ∃ A c, x = .slice A l.length c ∧ l.length ≤ c := by
  cases bk with
  | none => obtain ⟨rfl, rfl⟩ := g; exact ⟨none, 0, rfl, Nat.le_refl _⟩
  | some b => obtain ⟨_, o, c, N, rfl, hc, _⟩ := g; exact ⟨_, c, rfl, hc⟩
theorem GQ.keep {S h h' : Heap} {x : Value} {l : List Nat} {bk : Option Nat} {P : Nat → Prop} (g : GQ S h x l bk) (k : Keep P h h') (hP : ∀ b, bk = some b → P b) : GQ S h' x l bk := by
  cases bk with
  | none => exact g
  | some b =>
    obtain ⟨f, o, c, N, rfl, hc, hi, hN, h1⟩ := g
    have a := k.of (hP b rfl) hi
    exact ⟨f, o, c, N, rfl, hc, by rw [a.2]; exact hi, hN, fun j i hj => by rw [a.1]; exact h1 j i hj⟩
theorem GQ.le {S h h' : Heap} {x : Value} {l : List Nat} {bk : Option Nat} (g : GQ S h x l bk) (L : Le h h') : GQ S h' x l bk := by
  cases bk with
  | none => exact g
  | some b =>
    obtain ⟨f, o, c, N, rfl, hc, hi, hN, h1⟩ := g
    exact ⟨f, o, c, N, rfl, hc, L.info _ _ hi, hN, fun j i hj => L.cell _ _ _ (h1 j i hj)⟩
theorem GQ.known {S h : Heap} {x : Value} {l : List Nat} {b : Nat} (g : GQ S h x l (some b)) : ∃ N, h.info b = some (3, N) := by
  obtain ⟨f, o, c, N, rfl, hc, hi, _⟩ := g
  exact ⟨N, hi⟩

/-- The first number. -/
theorem GQ.first {S h : Heap} {x : Value} {v : Nat} {l : List Nat} {bk : Option Nat} (g : GQ S h x (v :: l) bk) : ∃ b o c, x = .slice (some ⟨b, o, none⟩) (l.length + 1) c ∧ h.cell b o = some (.int .i64 v) := by
  cases bk with
  | none => obtain ⟨h, _⟩ := g; cases h
  | some b =>
    obtain ⟨f, o, c, N, rfl, hc, hi, hN, h1⟩ := g
    exact ⟨b, o, c, rfl, h1 0 v rfl⟩

/-- Without its first number. -/
theorem GQ.pop {T : TT} {t e : TypeId} {w1 w2 : Nat} {zz : Array Value} {d : TypeDesc} {bb : Nat} {z : Array Value} (h1 : T t = some ⟨.slice e, w1, w2, zz⟩) (h2 : T e = some ⟨d, 1, bb, z⟩) {S h : Heap} {x : Value} {v : Nat} {l : List Nat} {bk : Option Nat} (g : GQ S h x (v :: l) bk) :
    ∃ x', slV T t x (some (.int .i64 1)) none none = some x' ∧ GQ S h x' l bk := by
  cases bk with
  | none => obtain ⟨h, _⟩ := g; cases h
  | some b =>
    obtain ⟨f, o, c, N, rfl, hc, hi, hN, h3⟩ := g
    simp at hc
    refine ⟨_, by simp only [slV, h1, h2, boundV]; rw [if_pos (by simp; omega)], ?_⟩
    simp
    split
    · next hc1 =>
      refine ⟨f, o, 0, N, by rw [hc1], by omega, hi, by omega, fun j i hj => ?_⟩
      have : l.length = 0 := by omega
      rw [List.eq_nil_of_length_eq_zero this] at hj
      simp at hj
    · refine ⟨f, o + 1, c - 1, N, rfl, by omega, hi, by omega, fun j i hj => ?_⟩
      rw [show o + 1 + j = o + (j + 1) by omega]
      exact h3 (j + 1) i (by simpa using hj)

theorem AP_queue {T : TT} {t : TypeId} {S h : Heap} {x : Value} {l : List Nat} {bk : Option Nat} {i r c : Nat} {K : Value → Heap → Prop} (hT : elemT T t = some (3, ⟨.int .i64, 1, 8, #[.int .i64 0]⟩))
    (g : GQ S h x l bk) (ls : Le S h) (hl : l.length < 1000000000) (hr : h.cell r 0 = some (.int .i64 i))
    (hK : ∀ x' h' bk', GQ S h' x' (l ++ [i]) bk' → Le S h' → (bk' = bk ∨ ∃ r, bk' = some r ∧ h.fresh r) → Keep (fun b => bk' ≠ some b) h h' → K x' h') :
    AP T t x (.slice (some ⟨r, 0, none⟩) 1 c) K h := by
  obtain ⟨A, cx, hx, hlc⟩ := g.shape
  simp only [AP, hT, PV_some, hx]
  have e1 : srcV h 1 (.slice (some ⟨r, 0, none⟩) 1 c) = some (1, [.int .i64 i]) := by simp [srcV, hr]
  rw [e1, PV_some]
  refine ⟨rfl, by omega, fun h => by have := nextcap_le h; omega, fun hle => ?_, fun hgt => ?_⟩
  · cases bk with
    | none =>
      obtain ⟨rfl, rfl⟩ := g
      cases hx
      simp at hle
    | some b =>
      obtain ⟨f, o, c', N, rfl, hc, hi, hN, h1⟩ := g
      cases hx
      have hle' : l.length + 1 ≤ cx := hle
      simp only [add_plain, Nat.mul_one, Nat.zero_add, setL_int]
      rw [can_info hi, decide_eq_true (by omega), if_pos rfl, PV_some]
      refine hK _ _ (some b) ⟨f, o, cx, N, by simp, by simp; omega, by simpa using hi, hN, fun j i' hj => ?_⟩ (ls.set_fresh f _ _) (.inl rfl) ?_
      · simp only [set_cell_here]
        rcases Nat.lt_or_ge j l.length with hlt | hge
        · rw [if_neg (by omega)]
          exact h1 j i' (by rw [List.getElem?_append_left hlt] at hj; exact hj)
        · rw [List.getElem?_append_right hge] at hj
          have : j - l.length = 0 := by
            rcases Nat.eq_zero_or_pos (j - l.length) with h | h
            · exact h
            · rw [List.getElem?_eq_none (by simp; omega)] at hj; cases hj
          rw [this] at hj
          simp at hj
          subst hj
          rw [if_pos (by omega)]
      · intro b' hb _
        have : b' ≠ b := fun e => hb (by rw [e])
        simp [this]
  · have e2 : srcV h 1 (.slice A l.length cx) = some (l.length, l.map fun (i : Nat) => Value.int .i64 i) := by
      cases bk with
      | none => obtain ⟨rfl, rfl⟩ := g; cases hx; rfl
      | some b =>
        obtain ⟨f, o, c', N, rfl, hc, hi, hN, h1⟩ := g
        cases hx
        simp only [srcV, Nat.mul_one]
        rw [cellsL_known l o 0 (fun j i hj => by rw [Nat.zero_add]; exact h1 j i hj)]
        rfl
    rw [e2, PV_some]
    intro r' c' hf hc'
    have c1 : ∀ j, (h.newP r' (l.map (fun (i : Nat) => Value.int .i64 i) ++ [.int .i64 i]) 3 (c' * 1)).cell r' j = (l.map (fun (i : Nat) => Value.int .i64 i) ++ [.int .i64 i])[j]? := fun j => by simp [Heap.newP]
    have L : Le h (h.newP r' (l.map (fun (i : Nat) => Value.int .i64 i) ++ [.int .i64 i]) 3 (c' * 1)) := by
      refine ⟨fun b i v hv => ?_, fun b v hv => ?_⟩
      · have : b ≠ r' := hf.ne hv
        simp [Heap.newP, this, hv]
      · have : b ≠ r' := hf.nei hv
        simp [Heap.newP, this, hv]
    refine hK _ _ (some r') ⟨hf.le ls, 0, c', c', by simp, by simpa using hc', by simp [Heap.newP], by omega, fun j i' hj => ?_⟩ (ls.trans L) (.inr ⟨r', rfl, hf⟩) ?_
    · rw [Nat.zero_add]
      refine (c1 j).trans ?_
      have : (l ++ [i])[j]? = some i' := hj
      rw [show (l.map (fun (i : Nat) => Value.int .i64 (i : Int)) ++ [.int .i64 (i : Int)]) = (l ++ [i]).map (fun (i : Nat) => Value.int .i64 (i : Int)) by simp, List.getElem?_map, this]
      rfl
    · intro b' hb _
      have : b' ≠ r' := fun e => hb (by rw [e])
      simp [Heap.newP, this]

theorem Le.set_unknown {S h : Heap} (l : Le S h) {b i : Nat} (hn : S.cell b i = none) (v : Value) : Le S (h.set b i v) := (Le.set_none hn v).trans (l.sets b i v)

end Go.HW
