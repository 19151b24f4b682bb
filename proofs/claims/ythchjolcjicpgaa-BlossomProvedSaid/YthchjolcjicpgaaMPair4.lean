/- Matchings between two sides: the cover. -/
import Derived.Test.YthchjolcjicpgaaMPair3
namespace Pair
open Go.HW (upd upd_same upd_ne)

theorem inj_len {α β : Type} [DecidableEq β] (f : α → β) : ∀ (l : List α) (l' : List β), l.Nodup → (∀ x, x ∈ l → f x ∈ l') → (∀ x y, x ∈ l → y ∈ l → f x = f y → x = y) → l.length ≤ l'.length := by
  intro l
  induction l with
  | nil => intro l' _ _ _; simp
  | cons a l ih =>
    intro l' hl hm hi
    have ha := hm a (by simp)
    have hn := List.nodup_cons.1 hl
    have h1 := ih (l'.erase (f a)) hn.2 (fun x hx => (List.mem_erase_of_ne (fun e => by
      have := hi x a (by simp [hx]) (by simp) e
      exact hn.1 (this ▸ hx))).2 (hm x (by simp [hx]))) fun x y hx hy => hi x y (by simp [hx]) (by simp [hy])
    rw [List.length_erase_of_mem ha] at h1
    have : 0 < l'.length := List.length_pos_of_mem ha
    simp
    omega

/-- A search of what is reached. 'P': edges that are still to be looked along. -/
structure Rch (g : G) (by_ : Nat → Int) (DL : Nat → Prop) (re : Nat → Bool) (st : List Nat) (P : Nat → Prop) : Prop where
  free : ∀ u, u < g.left → by_ u = -1 → re u = true
  inL : ∀ u, u < g.left → re u = true → DL u
  inR : ∀ w, g.left ≤ w → w < g.n → re w = true → ∃ k, k < g.m ∧ by_ w = (k : Int) ∧ g.R k = w ∧ re (g.L k) = true
  mem : ∀ u, u ∈ st → u < g.left ∧ re u = true
  owed : ∀ i, i < g.m → re (g.L i) = true → re (g.R i) = true ∨ g.L i ∈ st ∨ P i

theorem Rch.mate {g : G} {by_ : Nat → Int} {DL DR : Nat → Prop} {re : Nat → Bool} {st : List Nat} {P : Nat → Prop} (a : Rch g by_ DL re st P) (d : Dead g by_ DL DR) {i : Nat} (hi : i < g.m) (hv : re (g.L i) = true) :
    ∃ k, k < g.m ∧ by_ (g.R i) = (k : Int) ∧ g.R k = g.R i ∧ DL (g.L k) := d.back _ (d.out i hi (a.inL _ (g.hl i hi) hv))

theorem Rch.old {g : G} {by_ : Nat → Int} {DL : Nat → Prop} {re : Nat → Bool} {st : List Nat} {P : Nat → Prop} (a : Rch g by_ DL re st P) {i k : Nat} (hi : i < g.m) (hk : k < g.m) (hb : by_ (g.R i) = (k : Int)) (hR : g.R k = g.R i)
    (hr : re (g.L k) = true) : Rch g by_ DL (upd re (g.R i) true) st P := by
  have hw := g.hr i hi
  have up : ∀ x, re x = true → upd re (g.R i) true x = true := fun x h => by
    by_cases e : x = g.R i
    · rw [e, upd_same]
    · rw [upd_ne _ _ e]; exact h
  refine ⟨fun u hu h => up u (a.free u hu h), fun u hu h => ?_, fun w h1 h2 h => ?_, fun u hu => ⟨(a.mem u hu).1, up u (a.mem u hu).2⟩, fun j hj h => ?_⟩
  · rw [upd_ne _ _ (by omega)] at h
    exact a.inL u hu h
  · by_cases e : w = g.R i
    · exact ⟨k, hk, by rw [e]; exact hb, by rw [e]; exact hR, up _ hr⟩
    · rw [upd_ne _ _ e] at h
      obtain ⟨k', x1, x2, x3, x4⟩ := a.inR w h1 h2 h
      exact ⟨k', x1, x2, x3, up _ x4⟩
  · have := g.hl j hj
    rw [upd_ne _ _ (by omega)] at h
    exact (a.owed j hj h).imp (up _) id

theorem Rch.new {g : G} {by_ : Nat → Int} {DL : Nat → Prop} {re : Nat → Bool} {st : List Nat} {P : Nat → Prop} (a : Rch g by_ DL re st P) {i k : Nat} (hi : i < g.m) (hk : k < g.m) (hb : by_ (g.R i) = (k : Int)) (hR : g.R k = g.R i)
    (hd : DL (g.L k)) : Rch g by_ DL (upd (upd re (g.R i) true) (g.L k) true) (st ++ [g.L k]) P := by
  have hw := g.hr i hi
  have hl := g.hl k hk
  have up : ∀ x, re x = true → upd (upd re (g.R i) true) (g.L k) true x = true := fun x h => by
    by_cases e : x = g.L k
    · rw [e, upd_same]
    · rw [upd_ne _ _ e]
      by_cases e : x = g.R i
      · rw [e, upd_same]
      · rw [upd_ne _ _ e]; exact h
  refine ⟨fun u hu h => up u (a.free u hu h), fun u hu h => ?_, fun w h1 h2 h => ?_, fun u hu => ?_, fun j hj h => ?_⟩
  · by_cases e : u = g.L k
    · rw [e]; exact hd
    · rw [upd_ne _ _ e, upd_ne _ _ (by omega)] at h
      exact a.inL u hu h
  · rw [upd_ne _ _ (by omega)] at h
    by_cases e : w = g.R i
    · exact ⟨k, hk, by rw [e]; exact hb, by rw [e]; exact hR, upd_same _ _ _⟩
    · rw [upd_ne _ _ e] at h
      obtain ⟨k', x1, x2, x3, x4⟩ := a.inR w h1 h2 h
      exact ⟨k', x1, x2, x3, up _ x4⟩
  · rcases List.mem_append.1 hu with h | h
    · exact ⟨(a.mem u h).1, up u (a.mem u h).2⟩
    · simp at h
      subst h
      exact ⟨hl, upd_same _ _ _⟩
  · by_cases e : g.L j = g.L k
    · exact .inr (.inl (by simp [e]))
    · have := g.hl j hj
      rw [upd_ne _ _ e, upd_ne _ _ (by omega)] at h
      exact (a.owed j hj h).imp (up _) fun h => h.imp (fun h => List.mem_append_left _ h) id

theorem Rch.sub {g : G} {by_ : Nat → Int} {DL : Nat → Prop} {re : Nat → Bool} {st : List Nat} {P Q : Nat → Prop} (a : Rch g by_ DL re st P) (h : ∀ i, i < g.m → P i → re (g.R i) = true ∨ Q i) : Rch g by_ DL re st Q :=
  ⟨a.free, a.inL, a.inR, a.mem, fun i hi hr => (a.owed i hi hr).elim .inl fun x => x.elim (fun y => .inr (.inl y)) fun y => (h i hi y).imp id .inr⟩

theorem Rch.pop {g : G} {by_ : Nat → Int} {DL : Nat → Prop} {re : Nat → Bool} {st : List Nat} {v : Nat} (a : Rch g by_ DL re (st ++ [v]) fun _ => False) : Rch g by_ DL re st fun i => g.L i = v :=
  ⟨a.free, a.inL, a.inR, fun u hu => a.mem u (by simp [hu]), fun i hi hr => (a.owed i hi hr).imp id fun h => by
    rcases h with h | h
    · simpa using h
    · exact h.elim⟩

/-- A matching, and as many nodes that cover all edges. -/
structure Solved (g : G) (ml cl : List Nat) : Prop where
  mlt : ∀ i, i ∈ ml → i < g.m
  msort : ml.Pairwise (· < ·)
  mone : ∀ i j, i ∈ ml → j ∈ ml → (g.L i = g.L j ∨ g.R i = g.R j) → i = j
  clt : ∀ x, x ∈ cl → x < g.n
  csort : cl.Pairwise (· < ·)
  cov : ∀ i, i < g.m → g.L i ∈ cl ∨ g.R i ∈ cl
  len : cl.length = ml.length

theorem range_sorted (n : Nat) : (List.range n).Pairwise (· < ·) := List.pairwise_lt_range

/-- The nodes that are told. -/
def told (g : G) (re : Nat → Bool) (n : Nat) : List Nat := (List.range n).filter fun x => re x != decide (x < g.left)
theorem told_succ (g : G) (re : Nat → Bool) (n : Nat) : told g re (n + 1) = told g re n ++ (if re n ≠ decide (n < g.left) then [n] else []) := by
  simp only [told, List.range_succ, List.filter_append, List.filter_cons, List.filter_nil]
  congr 1
  by_cases h : re n = decide (n < g.left) <;> simp [h]

theorem nodup_of_lt {l : List Nat} (h : l.Pairwise (· < ·)) : l.Nodup := h.imp fun h => Nat.ne_of_lt h

theorem Rch.solved {g : G} {by_ : Nat → Int} {DL : Nat → Prop} {re : Nat → Bool} (a : Rch g by_ DL re [] fun _ => False) (hM : M g by_) {ml : List Nat} (hs : ml.Pairwise (· < ·)) (hm : ∀ i, i ∈ ml ↔ i < g.m ∧ by_ (g.L i) = (i : Int)) :
    Solved g ml (told g re g.n) := by
  have hn := g.hn
  have mem : ∀ x, x ∈ told g re g.n ↔ x < g.n ∧ re x ≠ decide (x < g.left) := fun x => by simp [told]
  have cs : (told g re g.n).Pairwise (· < ·) := (range_sorted _).filter _
  have clo : ∀ i, i < g.m → re (g.L i) = true → re (g.R i) = true := fun i hi h => (a.owed i hi h).elim id fun h => by simp at h
  have ofc : ∀ x, x ∈ told g re g.n → ∃ k, k < g.m ∧ by_ x = (k : Int) ∧ by_ (g.L k) = (k : Int) ∧ ((x = g.L k ∧ re (g.L k) = false) ∨ (x = g.R k ∧ re (g.L k) = true)) := fun x hx => by
    obtain ⟨h1, h2⟩ := (mem x).1 hx
    by_cases e : x < g.left
    · rw [decide_eq_true e] at h2
      have h3 : by_ x ≠ -1 := fun h => h2 (a.free x e h)
      obtain ⟨k, hk, hb, h4⟩ := (hM.some x h1).resolve_left h3
      have h5 : g.L k = x := h4.resolve_right fun e2 => by have := g.hr k hk; omega
      exact ⟨k, hk, hb, by rw [h5]; exact hb, .inl ⟨h5.symm, by rw [h5]; simpa using h2⟩⟩
    · rw [decide_eq_false e] at h2
      obtain ⟨k, hk, hb, h4, h5⟩ := a.inR x (by omega) h1 (by simpa using h2)
      exact ⟨k, hk, hb, (hM.both k hk).2 (by rw [h4]; exact hb), .inr ⟨h4.symm, h5⟩⟩
  refine ⟨fun i hi => ((hm i).1 hi).1, hs, fun i j hi hj h => ?_, fun x hx => ((mem x).1 hx).1, cs, fun i hi => ?_, Nat.le_antisymm ?_ ?_⟩
  · obtain ⟨i1, i2⟩ := (hm i).1 hi
    obtain ⟨j1, j2⟩ := (hm j).1 hj
    rcases h with h | h
    · rw [h] at i2; omega
    · have i3 := (hM.both i i1).1 i2
      have j3 := (hM.both j j1).1 j2
      rw [h] at i3; omega
  · have hl := g.hl i hi
    have hr := g.hr i hi
    by_cases e : re (g.L i) = true
    · refine .inr ((mem _).2 ⟨hr.2, ?_⟩)
      rw [clo i hi e, decide_eq_false (by omega)]
      simp
    · refine .inl ((mem _).2 ⟨by omega, ?_⟩)
      rw [decide_eq_true hl]
      exact e
  · refine inj_len (fun x => (by_ x).toNat) _ _ (nodup_of_lt cs) (fun x hx => ?_) fun x y hx hy e => ?_
    · obtain ⟨k, hk, hb, hb2, _⟩ := ofc x hx
      refine (hm _).2 ?_
      rw [hb]
      exact ⟨hk, hb2⟩
    · obtain ⟨k, hk, hb, hb2, c⟩ := ofc x hx
      obtain ⟨k', hk', hb', hb2', c'⟩ := ofc y hy
      have : k = k' := by simp only [hb, hb'] at e; omega
      subst this
      rcases c with ⟨c1, c2⟩ | ⟨c1, c2⟩ <;> rcases c' with ⟨c3, c4⟩ | ⟨c3, c4⟩
      · rw [c1, c3]
      · rw [c2] at c4; cases c4
      · rw [c2] at c4; cases c4
      · rw [c1, c3]
  · refine inj_len (fun k => if re (g.L k) = true then g.R k else g.L k) _ _ (nodup_of_lt hs) (fun k hk => ?_) fun i j hi hj e => ?_
    · obtain ⟨h1, h2⟩ := (hm k).1 hk
      have hl := g.hl k h1
      have hr := g.hr k h1
      split
      · next h => exact (mem _).2 ⟨hr.2, by rw [clo k h1 h, decide_eq_false (by omega)]; simp⟩
      · next h => exact (mem _).2 ⟨by omega, by rw [decide_eq_true hl]; exact h⟩
    · obtain ⟨i1, i2⟩ := (hm i).1 hi
      obtain ⟨j1, j2⟩ := (hm j).1 hj
      have i3 := (hM.both i i1).1 i2
      have j3 := (hM.both j j1).1 j2
      have : by_ (if re (g.L i) = true then g.R i else g.L i) = (i : Int) := by split <;> assumption
      have h2 : by_ (if re (g.L j) = true then g.R j else g.L j) = (j : Int) := by split <;> assumption
      skip
      rw [e] at this
      omega

/-- No cover is smaller than a matching. -/
theorem Solved.weak {g : G} {ml cl ml' cl' : List Nat} (a : Solved g ml cl) (b : Solved g ml' cl') : ml.length ≤ cl'.length := by
  refine inj_len (fun i => if g.L i ∈ cl' then g.L i else g.R i) _ _ (nodup_of_lt a.msort) (fun i hi => ?_) fun i j hi hj e => ?_
  · have := b.cov i (a.mlt i hi)
    show (if _ then _ else _) ∈ cl'
    split
    · assumption
    · exact this.resolve_left (by assumption)
  · have i1 := g.hl i (a.mlt i hi)
    have j1 := g.hl j (a.mlt j hj)
    have i2 := g.hr i (a.mlt i hi)
    have j2 := g.hr j (a.mlt j hj)
    skip
    split at e <;> split at e
    · exact a.mone i j hi hj (.inl e)
    · omega
    · omega
    · exact a.mone i j hi hj (.inr e)

theorem Solved.same {g : G} {ml cl ml' cl' : List Nat} (a : Solved g ml cl) (b : Solved g ml' cl') : ml.length = ml'.length := by
  have h1 := a.weak b
  have h2 := b.weak a
  rw [b.len] at h1
  rw [a.len] at h2
  omega

end Pair
