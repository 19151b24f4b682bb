/- Matchings between two sides: the graph of a list of edges; what is taken, as a list. -/
import Derived.Test.YthchjolcjicpgaaMPair4
import Derived.Test.YthchjolcjicpgaaCCheck
namespace Go.Proofs.Ythchjolcjicpgaa
open Go.HW Pair

/-- The edge's end of the left side, and of the right one. -/
def loE (e : RE) : Nat := (if e.v < e.u then e.v else e.u).toNat
def hiE (e : RE) : Nat := (if e.v < e.u then e.u else e.v).toNat
def atE (f : RE → Nat) (es : List RE) (i : Nat) : Nat := match es[i]? with | some e => f e | none => 0

theorem atE_of {f : RE → Nat} {es : List RE} {i : Nat} {e : RE} (h : es[i]? = some e) : atE f es i = f e := by simp [atE, h]

theorem Two.low {n left : Nat} {es : List RE} (t : Two n left es) {i : Nat} {e : RE} (h : es[i]? = some e) : loE e < left ∧ left ≤ hiE e ∧ hiE e < n ∧ ((e.u = loE e ∧ e.v = hiE e) ∨ (e.u = hiE e ∧ e.v = loE e)) := by
  have h1 := (t.fine.ok i e h).1
  have h2 := t.ok i e h
  have := t.l1
  unfold RE.inn at h1
  unfold loE hiE
  split <;> omega

def toG (n left : Nat) (es : List RE) (t : Two n left es) : G where
  n := n
  left := left
  m := es.length
  L := atE loE es
  R := atE hiE es
  hl := fun i hi => by
    have h := List.getElem?_eq_getElem hi
    rw [atE_of h]
    exact (t.low h).1
  hr := fun i hi => by
    have h := List.getElem?_eq_getElem hi
    rw [atE_of h]
    exact ⟨(t.low h).2.1, (t.low h).2.2.1⟩
  hn := by have := t.l1; omega

/-- The matching edges of the first nodes. -/
def taken (by_ : Nat → Int) : Nat → List Nat
  | 0 => []
  | v + 1 => taken by_ v ++ if 0 ≤ by_ v then [(by_ v).toNat] else []

theorem taken_mem (by_ : Nat → Int) (i : Nat) : ∀ v, i ∈ taken by_ v ↔ ∃ u, u < v ∧ by_ u = (i : Int) := by
  intro v
  induction v with
  | zero => simp [taken]
  | succ v ih =>
    simp only [taken, List.mem_append, ih]
    constructor
    · rintro (⟨u, h1, h2⟩ | h)
      · exact ⟨u, by omega, h2⟩
      · split at h
        · simp at h; exact ⟨v, by omega, by omega⟩
        · simp at h
    · rintro ⟨u, h1, h2⟩
      by_cases e : u = v
      · subst e
        right
        rw [if_pos (by omega)]
        simp
        omega
      · exact .inl ⟨u, by omega, h2⟩

theorem taken_len (by_ : Nat → Int) : ∀ v, (taken by_ v).length ≤ v := by
  intro v
  induction v with
  | zero => simp [taken]
  | succ v ih => simp only [taken, List.length_append]; split <;> simp <;> omega

theorem taken_nodup {g : G} {by_ : Nat → Int} (hM : Pair.M g by_) : ∀ v, v ≤ g.left → (taken by_ v).Nodup := by
  intro v
  induction v with
  | zero => intro _; simp [taken]
  | succ v ih =>
    intro hv
    simp only [taken]
    have hn := g.hn
    split
    · next h =>
      rw [List.nodup_append]
      refine ⟨ih (by omega), by simp, ?_⟩
      intro a ha b hb
      simp at hb
      subst hb
      rintro rfl
      obtain ⟨u, h1, h2⟩ := (taken_mem _ _ _).1 ha
      rcases hM.some v (by omega) with h3 | ⟨k, hk, h3, h4⟩
      · omega
      rcases hM.some u (by omega) with h5 | ⟨k', hk', h5, h6⟩
      · omega
      have h7 := g.hr k hk
      have h8 : k' = k := by omega
      subst h8
      omega
    · rw [List.append_nil]; exact ih (by omega)

theorem taken_iff {g : G} {by_ : Nat → Int} (hM : Pair.M g by_) (i : Nat) : i ∈ taken by_ g.left ↔ i < g.m ∧ by_ (g.L i) = (i : Int) := by
  have hn := g.hn
  rw [taken_mem]
  constructor
  · rintro ⟨u, h1, h2⟩
    rcases hM.some u (by omega) with h3 | ⟨k, hk, h3, h4⟩
    · omega
    · have : k = i := by omega
      subst this
      have h7 := g.hr k hk
      have h8 : g.L k = u := h4.resolve_right (by omega)
      exact ⟨hk, by rw [h8]; exact h3⟩
  · rintro ⟨h1, h2⟩
    exact ⟨g.L i, g.hl i h1, h2⟩

/-- A list that rises, without a number twice, rises strictly. -/
theorem rise {l : List Nat} (h : l.Pairwise (· ≤ ·)) (hn : l.Nodup) : l.Pairwise (· < ·) := by
  induction l with
  | nil => exact List.Pairwise.nil
  | cons a l ih =>
    rw [List.pairwise_cons] at h ⊢
    rw [List.nodup_cons] at hn
    refine ⟨fun b hb => ?_, ih h.2 hn.2⟩
    have := h.1 b hb
    have : a ≠ b := fun e => hn.1 (e ▸ hb)
    omega

end Go.Proofs.Ythchjolcjicpgaa
