/- Matchings between two sides: when no further way is to be found. -/
import Derived.Test.YthchjolcjicpgaaMPair
namespace Pair

/-- Every node of the left side that is not matched is dead. -/
def Best (g : G) (by_ : Nat → Int) (n : Nat) : Prop := ∃ DL DR, Dead g by_ DL DR ∧ ∀ u, u < n → by_ u = -1 → DL u

theorem M.none (g : G) (by_ : Nat → Int) (h : ∀ x, x < g.n → by_ x = -1) : M g by_ := by
  have hn := g.hn
  refine ⟨fun x hx => .inl (h x hx), fun i hi => ?_⟩
  have h1 := h (g.L i) (by have := g.hl i hi; omega)
  have h2 := h (g.R i) (g.hr i hi).2
  omega

theorem Best.none (g : G) (by_ : Nat → Int) : Best g by_ 0 := ⟨fun _ => False, fun _ => False, ⟨fun _ _ h => h, fun _ h => h.elim⟩, fun u hu => by omega⟩

theorem Win.m {g : G} {by_ by' : Nat → Int} {seen : Nat → Bool} {v : Nat} (hv : by_ v = -1) (W : Win g by_ by' seen v) : M g by' :=
  ⟨W.ok, fun i hi => ⟨W.both i hi, fun h => (W.back i hi h).resolve_right fun e => by omega⟩⟩

theorem Best.win {g : G} {by_ by' : Nat → Int} {seen : Nat → Bool} {v : Nat} (b : Best g by_ v) (W : Win g by_ by' seen v) (hv : v < g.left) : Best g by' (v + 1) := by
  obtain ⟨DL, DR, d, hd⟩ := b
  obtain ⟨n1, n2⟩ := W.dead DL DR d
  refine ⟨DL, DR, ⟨d.out, fun w hw => ?_⟩, fun u hu hf => ?_⟩
  · obtain ⟨k, a, b, c⟩ := d.back w hw
    exact ⟨k, a, by rw [n2 w hw]; exact b, c⟩
  · by_cases e : u = v
    · subst e
      obtain ⟨i, _, _, h, _⟩ := W.take
      omega
    · exact hd u (by omega) ((W.keepL u (by omega) e).2 hf)

theorem Best.fail {g : G} {by_ : Nat → Int} {seen : Nat → Bool} {v : Nat} (b : Best g by_ v) (F : Fail g by_ (fun _ => false) seen v) : Best g by_ (v + 1) := by
  obtain ⟨DL, DR, d, hd⟩ := b
  refine ⟨fun u => DL u ∨ ∀ i, i < g.m → g.L i = u → seen (g.R i) = true, fun w => DR w ∨ seen w = true, ⟨fun i hi h => ?_, fun w h => ?_⟩, fun u hu hf => ?_⟩
  · exact h.imp (d.out i hi) fun h => h i hi rfl
  · rcases h with h | h
    · obtain ⟨k, a, b, c, e⟩ := d.back w h
      exact ⟨k, a, b, c, .inl e⟩
    · rcases F.new w h with h | ⟨k, a, b, c, e⟩
      · cases h
      · exact ⟨k, a, b, c, .inr e⟩
  · by_cases e : u = v
    · subst e
      exact .inr F.out
    · exact .inl (hd u (by omega) hf)

theorem Win.mono {g : G} {by_ by' : Nat → Int} {s s' : Nat → Bool} {v : Nat} (h : ∀ w, s w = true → s' w = true) (W : Win g by_ by' s' v) : Win g by_ by' s v := by
  obtain ⟨i, h1, h2, h3, h4, h5⟩ := W.take
  exact ⟨⟨i, h1, h2, h3, h4, by cases e : s (g.R i) with | false => rfl | true => rw [h _ e] at h5; cases h5⟩, W.keepL, fun x hx hne hs => W.keepM x hx hne (hs.imp id fun ⟨k, a, b, c⟩ => ⟨k, a, b, h _ c⟩),
    fun w hw hl => W.keepS w (h w hw) hl, W.ok, W.both, W.back, W.dead⟩

/-- Right nodes matched to nodes of level 'a' at most. -/
def sn (g : G) (by_ lev : Nat → Int) (a : Int) : Nat → Bool := fun w => decide (w < g.n ∧ 0 ≤ by_ w ∧ lev (g.L (by_ w).toNat) ≤ a)
theorem sn_of {g : G} {by_ lev : Nat → Int} {a : Int} {w k : Nat} (hw : w < g.n) (h : by_ w = (k : Int)) : sn g by_ lev a w = true ↔ lev (g.L k) ≤ a := by
  simp [sn, h, hw]

/-- Levels that fell: the nodes that failed. -/
def Lev (g : G) (by_ lev lev' : Nat → Int) : Prop := ∀ x, x < g.left → lev' x = lev x ∨ (lev' x = -1 ∧ ∀ i, i < g.m → g.L i = x → ∃ k, k < g.m ∧ by_ (g.R i) = (k : Int) ∧ (lev (g.L k) = lev x + 1 → lev' (g.L k) = -1))

theorem Lev.refl (g : G) (by_ lev : Nat → Int) : Lev g by_ lev lev := fun _ _ => .inl rfl
theorem Lev.trans {g : G} {by_ lev lev1 lev2 : Nat → Int} (a : Lev g by_ lev lev1) (b : Lev g by_ lev1 lev2) : Lev g by_ lev lev2 := by
  have low : ∀ y, y < g.left → lev1 y = -1 → lev2 y = -1 := fun y hy h => (b y hy).elim (fun e => e.trans h) fun e => e.1
  intro x hx
  rcases a x hx with h1 | ⟨h1, h2⟩
  · rcases b x hx with h3 | ⟨h3, h4⟩
    · exact .inl (h3.trans h1)
    · refine .inr ⟨h3, fun i hi hL => ?_⟩
      obtain ⟨k, hk, hb, hl⟩ := h4 i hi hL
      refine ⟨k, hk, hb, fun e => ?_⟩
      rcases a (g.L k) (g.hl k hk) with h5 | ⟨h5, _⟩
      · exact hl (by rw [h5, h1]; exact e)
      · exact low _ (g.hl k hk) h5
  · refine .inr ⟨low x hx h1, fun i hi hL => ?_⟩
    obtain ⟨k, hk, hb, hl⟩ := h2 i hi hL
    exact ⟨k, hk, hb, fun e => low _ (g.hl k hk) (hl e)⟩

/-- The levels of the left side, as a search from the nodes that are not matched gives them. -/
structure Layers (g : G) (by_ lev : Nat → Int) : Prop where
  low : ∀ x, x < g.left → -1 ≤ lev x ∧ lev x ≤ g.n
  free : ∀ x, x < g.left → by_ x = -1 → lev x = 0
  zero : ∀ x, x < g.left → lev x = 0 → by_ x = -1
  pred : ∀ x, x < g.left → 0 < lev x → ∃ i k, i < g.m ∧ k < g.m ∧ lev (g.L i) + 1 = lev x ∧ by_ (g.R i) = (k : Int) ∧ g.L k = x

/-- Where every node that is not matched fails, no right node that is not matched is next to a node with a level. -/
theorem Layers.stuck {g : G} {by_ lev lev' : Nat → Int} (a : Layers g by_ lev) (l : Lev g by_ lev lev') (hf : ∀ x, x < g.left → by_ x = -1 → lev' x = -1) :
    ∀ (d : Nat) (x : Nat), x < g.left → lev x = (d : Int) → lev' x = -1 := by
  intro d
  induction d with
  | zero => intro x hx h; exact hf x hx (a.zero x hx (by omega))
  | succ d ih =>
    intro x hx h
    obtain ⟨i, k, hi, hk, h1, h2, h3⟩ := a.pred x hx (by omega)
    have h4 := ih (g.L i) (g.hl i hi) (by omega)
    rcases l (g.L i) (g.hl i hi) with h5 | ⟨_, h5⟩
    · omega
    · obtain ⟨k', hk', hb, hl⟩ := h5 i hi rfl
      have : k' = k := by omega
      subst this
      rw [h3] at hl
      exact hl (by omega)

end Pair
