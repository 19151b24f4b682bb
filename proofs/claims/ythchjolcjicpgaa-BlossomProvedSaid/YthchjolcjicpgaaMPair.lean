/- Matchings between two sides: the words, in plain Lean. -/
namespace Pair

/-- How many of the first 'n' are not seen. -/
def unseen : Nat → (Nat → Bool) → Nat
  | 0, _ => 0
  | n + 1, f => unseen n f + if f n = true then 0 else 1

def set (f : Nat → Bool) (w : Nat) : Nat → Bool := fun j => if j = w then true else f j

theorem unseen_le (n : Nat) (f g : Nat → Bool) (h : ∀ i, i < n → f i = true → g i = true) : unseen n g ≤ unseen n f := by
  induction n with
  | zero => simp [unseen]
  | succ n ih =>
    simp only [unseen]
    have h1 := ih (fun i hi => h i (by omega))
    have h2 := h n (by omega)
    by_cases hf : f n = true
    · simp [hf, h2 hf]; exact h1
    · simp only [hf, if_false, Bool.false_eq_true]
      split <;> omega

theorem unseen_lt (n : Nat) (f g : Nat → Bool) (h : ∀ i, i < n → f i = true → g i = true) {w : Nat} (hw : w < n) (h1 : f w = false) (h2 : g w = true) : unseen n g < unseen n f := by
  induction n with
  | zero => omega
  | succ n ih =>
    simp only [unseen]
    by_cases e : w = n
    · subst e
      have := unseen_le w f g (fun i hi => h i (by omega))
      simp only [h1, h2, if_true, Bool.false_eq_true, if_false]
      omega
    · have := ih (fun i hi => h i (by omega)) (by omega)
      have h3 := h n (by omega)
      by_cases hf : f n = true
      · simp [hf, h3 hf]; omega
      · simp only [hf, if_false, Bool.false_eq_true]
        split <;> omega

/-- A graph between two sides: edge 'i' joins 'L i' below 'left' and 'R i' from there on. -/
structure G where
  n : Nat
  left : Nat
  m : Nat
  L : Nat → Nat
  R : Nat → Nat
  hl : ∀ i, i < m → L i < left
  hr : ∀ i, i < m → left ≤ R i ∧ R i < n
  hn : left ≤ n

/-- 'by' tells which edge matches each node. -/
structure M (g : G) (by_ : Nat → Int) : Prop where
  some : ∀ x, x < g.n → by_ x = -1 ∨ ∃ i, i < g.m ∧ by_ x = (i : Int) ∧ (g.L i = x ∨ g.R i = x)
  both : ∀ i, i < g.m → (by_ (g.L i) = (i : Int) ↔ by_ (g.R i) = (i : Int))

def updI (f : Nat → Int) (i : Nat) (x : Int) : Nat → Int := fun j => if j = i then x else f j

/-- Nodes of the left side all of whose edges lead to nodes of the right side that are matched to them. -/
structure Dead (g : G) (by_ : Nat → Int) (DL DR : Nat → Prop) : Prop where
  out : ∀ i, i < g.m → DL (g.L i) → DR (g.R i)
  back : ∀ w, DR w → ∃ k, k < g.m ∧ by_ w = (k : Int) ∧ g.R k = w ∧ DL (g.L k)

/-- What a look from 'v' that fails leaves. -/
structure Fail (g : G) (by_ : Nat → Int) (seen seen' : Nat → Bool) (v : Nat) : Prop where
  grow : ∀ w, seen w = true → seen' w = true
  out : ∀ i, i < g.m → g.L i = v → seen' (g.R i) = true
  new : ∀ w, seen' w = true → seen w = true ∨ ∃ k, k < g.m ∧ by_ w = (k : Int) ∧ g.R k = w ∧ ∀ i, i < g.m → g.L i = g.L k → seen' (g.R i) = true

/-- Not matched, or matched to a node that is seen. -/
def Safe (g : G) (by_ : Nat → Int) (seen : Nat → Bool) (x : Nat) : Prop := by_ x = -1 ∨ ∃ k, k < g.m ∧ by_ x = (k : Int) ∧ seen (g.R k) = true

/-- What a look from 'v' that succeeds leaves: 'v' is matched anew; the node that it was matched to has been left, if there was one. -/
structure Win (g : G) (by_ by' : Nat → Int) (seen : Nat → Bool) (v : Nat) : Prop where
  take : ∃ i, i < g.m ∧ g.L i = v ∧ by' v = (i : Int) ∧ by' (g.R i) = (i : Int) ∧ seen (g.R i) = false
  keepL : ∀ x, x < g.left → x ≠ v → (by_ x = -1 ↔ by' x = -1)
  keepM : ∀ x, x < g.left → x ≠ v → Safe g by_ seen x → by' x = by_ x
  keepS : ∀ w, seen w = true → g.left ≤ w → by' w = by_ w
  ok : ∀ x, x < g.n → by' x = -1 ∨ ∃ i, i < g.m ∧ by' x = (i : Int) ∧ (g.L i = x ∨ g.R i = x)
  both : ∀ i, i < g.m → by' (g.L i) = (i : Int) → by' (g.R i) = (i : Int)
  back : ∀ i, i < g.m → by' (g.R i) = (i : Int) → by' (g.L i) = (i : Int) ∨ (g.L i = v ∧ by_ v = (i : Int))
  dead : ∀ DL DR, Dead g by_ DL DR → ¬ DL v ∧ ∀ w, DR w → by' w = by_ w

theorem Fail.start (g : G) (by_ : Nat → Int) (seen : Nat → Bool) : ∀ w, seen w = true → seen w = true := fun _ h => h

/-- The look has come to the 'j'-th of the edges 'l' of 'v'. -/
structure Going (g : G) (by_ : Nat → Int) (seen seen' : Nat → Bool) (l : List Nat) (j : Nat) : Prop where
  grow : ∀ w, seen w = true → seen' w = true
  out : ∀ k, k < j → ∀ i, l[k]? = some i → seen' (g.R i) = true
  new : ∀ w, seen' w = true → seen w = true ∨ ∃ k, k < g.m ∧ by_ w = (k : Int) ∧ g.R k = w ∧ ∀ i, i < g.m → g.L i = g.L k → seen' (g.R i) = true

theorem Going.start (g : G) (by_ : Nat → Int) (seen : Nat → Bool) (l : List Nat) : Going g by_ seen seen l 0 := ⟨fun _ h => h, fun k hk => by omega, fun _ h => .inl h⟩
theorem Going.skip {g : G} {by_ : Nat → Int} {seen s : Nat → Bool} {l : List Nat} {j i : Nat} (h : Going g by_ seen s l j) (hi : l[j]? = some i) (hs : s (g.R i) = true) : Going g by_ seen s l (j + 1) :=
  ⟨h.grow, fun k hk i' hi' => by
    by_cases e : k = j
    · subst e; rw [hi] at hi'; cases hi'; exact hs
    · exact h.out k (by omega) i' hi', h.new⟩
theorem Going.step {g : G} {by_ : Nat → Int} {seen s s' : Nat → Bool} {l : List Nat} {j i k : Nat} (h : Going g by_ seen s l j) (hi : l[j]? = some i) (hk : k < g.m) (hb : by_ (g.R i) = (k : Int)) (hR : g.R k = g.R i)
    (f : Fail g by_ (set s (g.R i)) s' (g.L k)) : Going g by_ seen s' l (j + 1) := by
  have up : ∀ w, s w = true → s' w = true := fun w hw => f.grow w (by simp only [set]; split <;> simp_all)
  have here : s' (g.R i) = true := f.grow _ (by simp [set])
  refine ⟨fun w hw => up w (h.grow w hw), fun q hq i' hi' => ?_, fun w hw => ?_⟩
  · by_cases e : q = j
    · subst e; rw [hi] at hi'; cases hi'; exact here
    · exact up _ (h.out q (by omega) i' hi')
  · rcases f.new w hw with h1 | h1
    · simp only [set] at h1
      split at h1
      · next e =>
        subst e
        exact .inr ⟨k, hk, hb, hR, fun i' hi' hL => f.out i' hi' hL⟩
      · rcases h.new w h1 with h2 | ⟨k', a, b, c, d⟩
        · exact .inl h2
        · exact .inr ⟨k', a, b, c, fun i' hi' hL => up _ (d i' hi' hL)⟩
    · exact .inr h1
theorem Going.done {g : G} {by_ : Nat → Int} {seen s : Nat → Bool} {l : List Nat} {j v : Nat} (h : Going g by_ seen s l j) (hj : l.length ≤ j) (hl : ∀ i, i < g.m → g.L i = v → i ∈ l) : Fail g by_ seen s v :=
  ⟨h.grow, fun i hi hL => by
    obtain ⟨k, hk, e⟩ := List.mem_iff_getElem.1 (hl i hi hL)
    exact h.out k (by omega) i (by rw [List.getElem?_eq_getElem hk, e]), h.new⟩

/-- A free node of the right side is taken. -/
theorem Win.free {g : G} {by_ : Nat → Int} {seen s : Nat → Bool} {v i : Nat} (hM : M g by_) (hi : i < g.m) (hv : g.L i = v) (hs : s (g.R i) = false) (up : ∀ w, seen w = true → s w = true) (hf : by_ (g.R i) = -1) :
    Win g by_ (updI (updI by_ v i) (g.R i) i) seen v := by
  have hl := g.hl i hi
  have hr := g.hr i hi
  have hne : v ≠ g.R i := by omega
  have hs0 : seen (g.R i) = false := by cases e : seen (g.R i) with | false => rfl | true => rw [up _ e] at hs; cases hs
  refine ⟨⟨i, hi, hv, by simp [updI, hne], by simp [updI], hs0⟩, ?_, ?_, ?_, ?_, ?_, ?_, ?_⟩
  · intro x hx hxv
    have : x ≠ g.R i := by omega
    simp [updI, this, hxv]
  · intro x hx hxv _
    have : x ≠ g.R i := by omega
    simp [updI, this, hxv]
  · intro w hw hwl
    have h1 : w ≠ g.R i := by rintro rfl; rw [hs0] at hw; cases hw
    have h2 : w ≠ v := by omega
    simp [updI, h1, h2]
  · intro x hx
    simp only [updI]
    split
    · next e => exact .inr ⟨i, hi, rfl, .inr e.symm⟩
    · split
      · next e => exact .inr ⟨i, hi, rfl, .inl (by rw [hv]; exact e.symm)⟩
      · exact hM.some x hx
  · intro k hk h
    have hkl := g.hl k hk
    have hkr := g.hr k hk
    simp only [updI] at h ⊢
    rw [if_neg (by omega)] at h
    split at h
    · have : k = i := by omega
      subst this; simp
    · next hne' =>
      have h2 := (hM.both k hk).1 h
      rw [if_neg (by intro e; rw [e, hf] at h2; omega), if_neg (by omega)]
      exact h2
  · intro k hk h
    have hkl := g.hl k hk
    have hkr := g.hr k hk
    simp only [updI] at h ⊢
    split at h
    · have : k = i := by omega
      subst this
      left
      rw [if_neg (by omega), if_pos hv]
    · rw [if_neg (by omega)] at h
      have h2 := (hM.both k hk).2 h
      by_cases e : g.L k = v
      · right; exact ⟨e, by rw [← e]; exact h2⟩
      · left
        rw [if_neg (by omega), if_neg e]
        exact h2
  · intro DL DR d
    have nd : ¬ DR (g.R i) := fun h => by
      obtain ⟨k, _, h1, _⟩ := d.back _ h
      rw [hf] at h1; omega
    refine ⟨fun h => nd (d.out i hi (by rw [hv]; exact h)), fun w hw => ?_⟩
    obtain ⟨k, hk, _, h2, _⟩ := d.back _ hw
    have h3 : w ≠ g.R i := fun e => nd (e ▸ hw)
    have h4 := g.hr k hk
    simp only [updI]
    rw [if_neg h3, if_neg (by omega)]

/-- A node that a further look has left is taken. -/
theorem Win.pass {g : G} {by_ by' : Nat → Int} {seen s : Nat → Bool} {v i k : Nat} (hM : M g by_) (hi : i < g.m) (hv : g.L i = v) (hs : s (g.R i) = false) (up : ∀ w, seen w = true → s w = true)
    (hk : k < g.m) (hb : by_ (g.R i) = (k : Int)) (hR : g.R k = g.R i) (W : Win g by_ by' (set s (g.R i)) (g.L k)) (hne : g.L k ≠ v) (hp : Safe g by_ seen v) :
    Win g by_ (updI (updI by' v i) (g.R i) i) seen v := by
  have hl := g.hl i hi
  have hr := g.hr i hi
  have hlk := g.hl k hk
  have hs0 : seen (g.R i) = false := by cases e : seen (g.R i) with | false => rfl | true => rw [up _ e] at hs; cases hs
  have stale : by' (g.R i) = (k : Int) := by rw [W.keepS _ (by simp [set]) hr.1]; exact hb
  refine ⟨⟨i, hi, hv, by simp [updI, show v ≠ g.R i by omega], by simp [updI], hs0⟩, ?_, ?_, ?_, ?_, ?_, ?_, ?_⟩
  · intro x hx hxv
    have h1 : x ≠ g.R i := by omega
    simp only [updI]
    rw [if_neg h1, if_neg hxv]
    by_cases e : x = g.L k
    · subst e
      obtain ⟨i', _, _, h2, _⟩ := W.take
      have h3 : by_ (g.L k) = (k : Int) := (hM.both k hk).2 (by rw [hR]; exact hb)
      constructor
      · intro h; omega
      · intro h; omega
    · exact W.keepL x hx e
  · intro x hx hxv hsafe
    have h1 : x ≠ g.R i := by omega
    simp only [updI]
    rw [if_neg h1, if_neg hxv]
    have h4 : by_ (g.L k) = (k : Int) := (hM.both k hk).2 (by rw [hR]; exact hb)
    refine W.keepM x hx ?_ (hsafe.imp id fun ⟨q, a, b, c⟩ => ⟨q, a, b, by simp only [set]; split <;> simp [up _ c]⟩)
    rintro rfl
    rcases hsafe with h2 | ⟨q, _, h2, h3⟩
    · omega
    · have : q = k := by omega
      subst this
      rw [hR, hs0] at h3
      cases h3
  · intro w hw hwl
    have h1 : w ≠ g.R i := by rintro rfl; rw [hs0] at hw; cases hw
    simp only [updI]
    rw [if_neg h1, if_neg (by omega)]
    exact W.keepS w (by simp only [set]; split <;> simp [up w hw]) hwl
  · intro x hx
    simp only [updI]
    split
    · next e => exact .inr ⟨i, hi, rfl, .inr e.symm⟩
    · split
      · next e => exact .inr ⟨i, hi, rfl, .inl (by rw [hv]; exact e.symm)⟩
      · exact W.ok x hx
  · intro q hq h
    have hql := g.hl q hq
    have hqr := g.hr q hq
    simp only [updI] at h ⊢
    rw [if_neg (by omega)] at h
    split at h
    · have : q = i := by omega
      subst this; simp
    · next hne' =>
      have h2 := W.both q hq h
      by_cases e : g.R q = g.R i
      · -- the node that was left
        rw [e, stale] at h2
        have : q = k := by omega
        subst this
        obtain ⟨i', hi', h5, h3, h4, h6⟩ := W.take
        rw [h3] at h
        have : i' = q := by omega
        subst this
        rw [hR] at h6
        simp [set] at h6
      · rw [if_neg e, if_neg (by omega)]
        exact h2
  · intro q hq h
    have hql := g.hl q hq
    have hqr := g.hr q hq
    simp only [updI] at h ⊢
    split at h
    · have : q = i := by omega
      subst this
      left
      rw [if_neg (by omega), if_pos hv]
    · next hRne =>
      rw [if_neg (by omega)] at h
      rcases W.back q hq h with h2 | ⟨h2, h3⟩
      · by_cases e : g.L q = v
        · right
          refine ⟨e, ?_⟩
          have h5 := W.keepM v (by omega) (Ne.symm hne) (hp.imp id fun ⟨q, a, b, c⟩ => ⟨q, a, b, by simp only [set]; split <;> simp [up _ c]⟩)
          rw [← h5, ← e]
          exact h2
        · left
          rw [if_neg (by omega), if_neg e]
          exact h2
      · have h4 : by_ (g.L k) = (k : Int) := (hM.both k hk).2 (by rw [hR]; exact hb)
        rw [h4] at h3
        have : k = q := by omega
        subst this
        exact (hRne hR).elim
  · intro DL DR d
    obtain ⟨n1, n2⟩ := W.dead DL DR d
    have nd : ¬ DR (g.R i) := fun h => by
      obtain ⟨k', hk', h1, h2, h3⟩ := d.back _ h
      rw [hb] at h1
      have : k = k' := by omega
      subst this
      exact n1 h3
    refine ⟨fun h => nd (d.out i hi (by rw [hv]; exact h)), fun w hw => ?_⟩
    obtain ⟨k', hk', _, h2, _⟩ := d.back _ hw
    have h3 : w ≠ g.R i := fun e => nd (e ▸ hw)
    have h4 := g.hr k' hk'
    simp only [updI]
    rw [if_neg h3, if_neg (by omega)]
    exact n2 w hw

end Pair
