/- Matchings between two sides: layers by a search in breadth. -/
import Derived.Test.YthchjolcjicpgaaMPair2
import Derived.Test.YthchjolcjicpgaaPred
namespace Pair
open Go.HW (upd upd_same upd_ne)

theorem nodup_le : ∀ (n : Nat) (l : List Nat), l.Nodup → (∀ x, x ∈ l → x < n) → l.length ≤ n := by
  intro n
  induction n with
  | zero =>
    intro l _ h
    cases l with
    | nil => simp
    | cons x l => have := h x (by simp); omega
  | succ n ih =>
    intro l hl h
    by_cases e : n ∈ l
    · have h1 := ih (l.erase n) (hl.erase n) fun x hx => by
        have h2 := (List.Nodup.mem_erase_iff hl).1 hx
        have := h x h2.2
        have := h2.1
        omega
      rw [List.length_erase_of_mem e] at h1
      omega
    · have := ih l hl fun x hx => by
        have := h x hx
        have : x ≠ n := fun e' => e (e' ▸ hx)
        omega
      omega

structure Bfs (g : G) (by_ lev : Nat → Int) (l : List Nat) (found : Bool) : Prop where
  nodup : l.Nodup
  inl : ∀ x, x ∈ l → x < g.left ∧ 0 ≤ lev x
  all : ∀ x, x < g.left → 0 ≤ lev x → x ∈ l
  at_ : ∀ (j x : Nat), l[j]? = some x → lev x ≤ j
  low : ∀ x, x < g.left → -1 ≤ lev x
  free : ∀ x, x < g.left → by_ x = -1 → lev x = 0
  zero : ∀ x, x < g.left → lev x = 0 → by_ x = -1
  pred : ∀ x, x < g.left → 0 < lev x → ∃ i k, i < g.m ∧ k < g.m ∧ lev (g.L i) + 1 = lev x ∧ by_ (g.R i) = (k : Int) ∧ g.L k = x
  fnd : found = true → ∃ i, i < g.m ∧ 0 ≤ lev (g.L i) ∧ by_ (g.R i) = -1

/-- The edge has been looked along. -/
def Okk (g : G) (by_ lev : Nat → Int) (found : Bool) (i : Nat) : Prop := (by_ (g.R i) = -1 ∧ found = true) ∨ ∃ k, k < g.m ∧ by_ (g.R i) = (k : Int) ∧ g.R k = g.R i ∧ 0 ≤ lev (g.L k)

theorem Okk.mono {g : G} {by_ lev lev' : Nat → Int} {f f' : Bool} {i : Nat} (h : Okk g by_ lev f i) (hf : f = true → f' = true) (hl : ∀ x, x < g.left → 0 ≤ lev x → 0 ≤ lev' x) : Okk g by_ lev' f' i :=
  h.imp (fun ⟨a, b⟩ => ⟨a, hf b⟩) fun ⟨k, a, b, c, d⟩ => ⟨k, a, b, c, hl _ (g.hl k a) d⟩

theorem Bfs.len {g : G} {by_ lev : Nat → Int} {l : List Nat} {f : Bool} (b : Bfs g by_ lev l f) : l.length ≤ g.left := nodup_le _ _ b.nodup fun x hx => (b.inl x hx).1

theorem Bfs.lay {g : G} {by_ lev : Nat → Int} {l : List Nat} {f : Bool} (b : Bfs g by_ lev l f) : Layers g by_ lev := by
  refine ⟨fun x hx => ⟨b.low x hx, ?_⟩, b.free, b.zero, b.pred⟩
  by_cases h : 0 ≤ lev x
  · obtain ⟨j, hj, e⟩ := List.mem_iff_getElem.1 (b.all x hx h)
    have := b.at_ j x (by rw [List.getElem?_eq_getElem hj, e])
    have := b.len
    have := g.hn
    omega
  · omega

theorem Bfs.push {g : G} {by_ lev : Nat → Int} {l : List Nat} {f : Bool} (b : Bfs g by_ lev l f) {n v i k : Nat} (hn : l[n]? = some v) (hi : i < g.m) (hL : g.L i = v) (hk : k < g.m) (hb : by_ (g.R i) = (k : Int)) (hR : g.R k = g.R i)
    (hM : M g by_) (hneg : lev (g.L k) < 0) : Bfs g by_ (upd lev (g.L k) (lev v + 1)) (l ++ [g.L k]) f := by
  have hu := g.hl k hk
  have hbk : by_ (g.L k) = (k : Int) := (hM.both k hk).2 (by rw [hR]; exact hb)
  have hv := b.inl v (List.mem_of_getElem? hn)
  have hvu : v ≠ g.L k := by rintro rfl; omega
  have hnin : g.L k ∉ l := fun h => by have := (b.inl _ h).2; omega
  have hnl : n < l.length := (List.getElem?_eq_some_iff.1 hn).1
  refine ⟨?_, fun x hx => ?_, fun x hx h => ?_, fun j x hj => ?_, fun x hx => ?_, fun x hx h => ?_, fun x hx h => ?_, fun x hx h => ?_, fun hf => ?_⟩
  · rw [List.nodup_append]
    refine ⟨b.nodup, by simp, ?_⟩
    intro a ha c hc
    simp at hc
    subst hc
    rintro rfl
    exact hnin ha
  · rcases List.mem_append.1 hx with h | h
    · have e : x ≠ g.L k := fun e => hnin (e ▸ h)
      rw [upd_ne _ _ e]
      exact b.inl x h
    · simp at h
      subst h
      rw [upd_same]
      omega
  · by_cases e : x = g.L k
    · simp [e]
    · rw [upd_ne _ _ e] at h
      exact List.mem_append_left _ (b.all x hx h)
  · rcases Nat.lt_or_ge j l.length with h | h
    · rw [List.getElem?_append_left h] at hj
      have e : x ≠ g.L k := fun e => hnin (e ▸ List.mem_of_getElem? hj)
      rw [upd_ne _ _ e]
      exact b.at_ j x hj
    · rw [List.getElem?_append_right h] at hj
      have h0 : j - l.length = 0 := by
        rcases Nat.eq_zero_or_pos (j - l.length) with h | h
        · exact h
        · rw [List.getElem?_eq_none (by simp; omega)] at hj; cases hj
      rw [h0] at hj
      simp at hj
      subst hj
      rw [upd_same]
      have := b.at_ n v hn
      omega
  · by_cases e : x = g.L k
    · rw [e, upd_same]; omega
    · rw [upd_ne _ _ e]; exact b.low x hx
  · by_cases e : x = g.L k
    · subst e; omega
    · rw [upd_ne _ _ e]; exact b.free x hx h
  · by_cases e : x = g.L k
    · subst e; rw [upd_same] at h; omega
    · rw [upd_ne _ _ e] at h; exact b.zero x hx h
  · by_cases e : x = g.L k
    · subst e
      refine ⟨i, k, hi, hk, ?_, hb, rfl⟩
      rw [hL, upd_ne _ _ hvu, upd_same]
    · rw [upd_ne _ _ e] at h ⊢
      obtain ⟨i', k', h1, h2, h3, h4, h5⟩ := b.pred x hx h
      refine ⟨i', k', h1, h2, ?_, h4, h5⟩
      rw [upd_ne _ _ (fun e2 => by rw [e2] at h3; omega)]
      exact h3
  · obtain ⟨i', h1, h2, h3⟩ := b.fnd hf
    refine ⟨i', h1, ?_, h3⟩
    by_cases e : g.L i' = g.L k
    · rw [e, upd_same]; omega
    · rw [upd_ne _ _ e]; exact h2

theorem Bfs.see {g : G} {by_ lev : Nat → Int} {l : List Nat} {f : Bool} (b : Bfs g by_ lev l f) {v i : Nat} (hv : v ∈ l) (hi : i < g.m) (hL : g.L i = v) (hb : by_ (g.R i) = -1) : Bfs g by_ lev l true :=
  ⟨b.nodup, b.inl, b.all, b.at_, b.low, b.free, b.zero, b.pred, fun _ => ⟨i, hi, by rw [hL]; exact (b.inl v hv).2, hb⟩⟩

theorem Bfs.best {g : G} {by_ lev : Nat → Int} {l : List Nat} (b : Bfs g by_ lev l false) (hall : ∀ x, x ∈ l → ∀ i, i < g.m → g.L i = x → Okk g by_ lev false i) : Best g by_ g.left := by
  refine ⟨fun u => u < g.left ∧ 0 ≤ lev u, fun w => ∃ i, i < g.m ∧ 0 ≤ lev (g.L i) ∧ g.R i = w, ⟨fun i hi h => ⟨i, hi, h.2, rfl⟩, ?_⟩, fun u hu h => ⟨hu, by rw [b.free u hu h]; exact Int.le_refl _⟩⟩
  rintro w ⟨i, hi, h, rfl⟩
  rcases hall _ (b.all _ (g.hl i hi) h) i hi rfl with ⟨_, h⟩ | ⟨k, h1, h2, h3, h4⟩
  · cases h
  · exact ⟨k, h1, h2, h3, g.hl k h1, h4⟩

/-- The start: nodes that are not matched. -/
structure Ini (g : G) (by_ lev : Nat → Int) (l : List Nat) (v : Nat) : Prop where
  nodup : l.Nodup
  mem : ∀ x, x ∈ l ↔ x < v ∧ x < g.left ∧ by_ x = -1
  lev : ∀ x, x < v → lev x = if x < g.left ∧ by_ x = -1 then 0 else -1

theorem Ini.none (g : G) (by_ lev : Nat → Int) : Ini g by_ lev [] 0 := ⟨by simp, fun x => by simp, fun x hx => by omega⟩

theorem Ini.push {g : G} {by_ lev : Nat → Int} {l : List Nat} {v : Nat} (a : Ini g by_ lev l v) (hv : v < g.left) (hb : by_ v = -1) : Ini g by_ (upd lev v 0) (l ++ [v]) (v + 1) := by
  refine ⟨?_, fun x => ?_, fun x hx => ?_⟩
  · rw [List.nodup_append]
    refine ⟨a.nodup, by simp, ?_⟩
    intro x hx c hc
    simp at hc
    have := (a.mem x).1 hx
    omega
  · rw [List.mem_append, a.mem]
    simp
    constructor
    · rintro (h | rfl)
      · exact ⟨by omega, h.2⟩
      · exact ⟨by omega, hv, hb⟩
    · rintro ⟨h1, h2⟩
      rcases Nat.lt_or_ge x v with h | h
      · exact .inl ⟨h, h2⟩
      · exact .inr (by omega)
  · by_cases e : x = v
    · subst e; rw [upd_same, if_pos ⟨hv, hb⟩]
    · rw [upd_ne _ _ e]; exact a.lev x (by omega)

theorem Ini.pass {g : G} {by_ lev : Nat → Int} {l : List Nat} {v : Nat} (a : Ini g by_ lev l v) (h : ¬ (v < g.left ∧ by_ v = -1)) : Ini g by_ (upd lev v (-1)) l (v + 1) := by
  refine ⟨a.nodup, fun x => ?_, fun x hx => ?_⟩
  · rw [a.mem]
    constructor
    · rintro ⟨h1, h2⟩; exact ⟨by omega, h2⟩
    · rintro ⟨h1, h2⟩
      refine ⟨?_, h2⟩
      by_cases e : x = v
      · subst e; exact (h h2).elim
      · omega
  · by_cases e : x = v
    · subst e; rw [upd_same, if_neg h]
    · rw [upd_ne _ _ e]; exact a.lev x (by omega)

theorem Ini.bfs {g : G} {by_ lev : Nat → Int} {l : List Nat} (a : Ini g by_ lev l g.n) : Bfs g by_ lev l false := by
  have hn := g.hn
  have key : ∀ x, x < g.left → (by_ x = -1 → lev x = 0) ∧ (by_ x ≠ -1 → lev x = -1) := fun x hx => by
    have h := a.lev x (by omega)
    constructor
    · intro e; rw [h, if_pos ⟨hx, e⟩]
    · intro e; rw [h, if_neg fun h => e h.2]
  refine ⟨a.nodup, fun x hx => ?_, fun x hx h => ?_, fun j x hj => ?_, fun x hx => ?_, fun x hx h => (key x hx).1 h, fun x hx h => ?_, fun x hx h => ?_, fun h => by cases h⟩
  · have := (a.mem x).1 hx
    exact ⟨this.2.1, by rw [(key x this.2.1).1 this.2.2]; exact Int.le_refl _⟩
  · refine (a.mem x).2 ⟨by omega, hx, ?_⟩
    by_cases e : by_ x = -1
    · exact e
    · have := (key x hx).2 e; omega
  · have := (a.mem x).1 (List.mem_of_getElem? hj)
    rw [(key x this.2.1).1 this.2.2]
    omega
  · by_cases e : by_ x = -1
    · have := (key x hx).1 e; omega
    · have := (key x hx).2 e; omega
  · by_cases e : by_ x = -1
    · exact e
    · have := (key x hx).2 e; omega
  · by_cases e : by_ x = -1
    · have := (key x hx).1 e; omega
    · have := (key x hx).2 e; omega

end Pair
