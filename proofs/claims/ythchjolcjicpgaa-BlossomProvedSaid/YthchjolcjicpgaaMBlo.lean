/- Matchings in any graph: a search's state, in plain Lean. -/
import Derived.Test.YthchjolcjicpgaaPred
import Derived.Test.YthchjolcjicpgaaMPair
namespace Blo
open Go.HW (upd upd_same upd_ne)

/-- A graph: edge 'i' joins 'U i' and 'V i'. -/
structure Gr where
  n : Nat
  m : Nat
  U : Nat → Nat
  V : Nat → Nat
  hU : ∀ i, i < m → U i < n
  hV : ∀ i, i < m → V i < n

/-- Edge 'i' joins 'x' and 'y', two nodes. -/
structure Gr.E (g : Gr) (i x y : Nat) : Prop where
  lt : i < g.m
  ne : x ≠ y
  or : (g.U i = x ∧ g.V i = y) ∨ (g.U i = y ∧ g.V i = x)

def Gr.ot (g : Gr) (i x : Nat) : Nat := g.U i + g.V i - x

section
variable {g : Gr} {i x y z : Nat}
theorem Gr.E.symm (e : g.E i x y) : g.E i y x := ⟨e.lt, e.ne.symm, e.or.symm⟩
theorem Gr.E.ltx (e : g.E i x y) : x < g.n := by
  have h1 := g.hU i e.lt
  have h2 := g.hV i e.lt
  rcases e.or with h | h <;> omega
theorem Gr.E.lty (e : g.E i x y) : y < g.n := e.symm.ltx
theorem Gr.E.ot (e : g.E i x y) : g.ot i x = y := by
  unfold Gr.ot
  rcases e.or with h | h <;> omega
theorem Gr.E.det (e : g.E i x y) (e' : g.E i x z) : y = z := e.ot.symm.trans e'.ot
end

/-- 'by' tells which edge matches each node. -/
structure Mat (g : Gr) (by_ : Nat → Option Nat) : Prop where
  ok : ∀ x i, x < g.n → by_ x = some i → g.E i x (g.ot i x) ∧ by_ (g.ot i x) = some i

/-- The node that a node is matched to; itself, if it is not matched. -/
def mate (g : Gr) (by_ : Nat → Option Nat) (x : Nat) : Nat := match by_ x with
  | some i => g.ot i x
  | none => x

section
variable {g : Gr} {by_ : Nat → Option Nat} {x i : Nat}
theorem mate_none (h : by_ x = none) : mate g by_ x = x := by simp [mate, h]
theorem mate_some (h : by_ x = some i) : mate g by_ x = g.ot i x := by simp [mate, h]
theorem Mat.edge (M : Mat g by_) (hx : x < g.n) (h : by_ x = some i) : g.E i x (mate g by_ x) := by rw [mate_some h]; exact (M.ok x i hx h).1
theorem Mat.by_mate (M : Mat g by_) (hx : x < g.n) : by_ (mate g by_ x) = by_ x := by
  cases h : by_ x with
  | none => rw [mate_none h, h]
  | some i => rw [mate_some h]; exact (M.ok x i hx h).2
theorem Mat.lt (M : Mat g by_) (hx : x < g.n) : mate g by_ x < g.n := by
  cases h : by_ x with
  | none => rw [mate_none h]; exact hx
  | some i => exact (M.edge hx h).lty
theorem Mat.inv (M : Mat g by_) (hx : x < g.n) : mate g by_ (mate g by_ x) = x := by
  cases h : by_ x with
  | none => rw [mate_none h, mate_none h]
  | some i =>
    have h2 := M.by_mate hx
    rw [h] at h2
    rw [mate_some h2]
    exact (M.edge hx h).symm.ot
theorem Mat.ne (M : Mat g by_) (hx : x < g.n) (h : by_ x ≠ none) : mate g by_ x ≠ x := by
  cases h' : by_ x with
  | none => exact absurd h' h
  | some i => exact (M.edge hx h').ne.symm
theorem Mat.free (M : Mat g by_) (hx : x < g.n) (h : mate g by_ x = x) : by_ x = none := Classical.byContradiction fun h' => M.ne hx h' h
theorem Mat.inj (M : Mat g by_) {y : Nat} (hx : x < g.n) (hy : y < g.n) (h : mate g by_ x = mate g by_ y) : x = y := by rw [← M.inv hx, h, M.inv hy]
end

/-- The even nodes of an alternating way without a node twice. -/
structure Ok (g : Gr) (by_ : Nat → Option Nat) (l : List Nat) : Prop where
  nd : l.Nodup
  mf : ∀ x, x ∈ l → mate g by_ x ∈ l → mate g by_ x = x

/-- A search from 'r': each node's circle's base, the edges by which ways go on, which nodes are even, and the even nodes of the way back from each. -/
structure Sr (g : Gr) (by_ : Nat → Option Nat) (r : Nat) (base : Nat → Nat) (via : Nat → Option Nat) (ev : Nat → Bool) (P : Nat → List Nat) : Prop where
  mat : Mat g by_
  rn : r < g.n
  rf : by_ r = none
  re : ev r = true
  rp : P r = [r]
  stp : ∀ v, v < g.n → ev v = true → v ≠ r → by_ v ≠ none ∧ ∃ k u, via (mate g by_ v) = some k ∧ g.E k (mate g by_ v) u ∧ ev u = true ∧ P v = v :: P u
  ok : ∀ v, v < g.n → ev v = true → Ok g by_ (P v)
  bs : ∀ v, v < g.n → ev v = true → base v < g.n ∧ ev (base v) = true ∧ base (base v) = base v ∧ ∃ s, P v = s ++ P (base v) ∧ ∀ x, x ∈ s → base x = base v
  bo : ∀ v, v < g.n → ev v = false → base v = v
  od : ∀ v, v < g.n → ev v = false → via v ≠ none → by_ v ≠ none ∧ ev (mate g by_ v) = true
  bm : ∀ v, v < g.n → ev v = true → ev (mate g by_ v) = true → base (mate g by_ v) = base v
  bn : ∀ v, v < g.n → ev v = true → base v ≠ v → ev (mate g by_ v) = true

section
variable {g : Gr} {by_ : Nat → Option Nat} {r : Nat} {base : Nat → Nat} {via : Nat → Option Nat} {ev : Nat → Bool} {P : Nat → List Nat} {v x y : Nat}

theorem Sr.head (a : Sr g by_ r base via ev P) (hv : v < g.n) (e : ev v = true) : ∃ l, P v = v :: l := by
  by_cases h : v = r
  · subst h; exact ⟨[], a.rp⟩
  · obtain ⟨_, k, u, _, _, _, h⟩ := a.stp v hv e h
    exact ⟨_, h⟩

theorem Sr.mem (a : Sr g by_ r base via ev P) : ∀ (N : Nat) (v : Nat), (P v).length ≤ N → v < g.n → ev v = true → ∀ x, x ∈ P v → x < g.n ∧ ev x = true ∧ P x <:+ P v := by
  intro N
  induction N with
  | zero =>
    intro v hN hv e x hx
    obtain ⟨y, hy⟩ : ∃ y, y = P v := ⟨_, rfl⟩
    rw [← hy] at hN hx
    cases y with
    | nil => cases hx
    | cons a b => simp at hN
  | succ N ih =>
    intro v hN hv e x hx
    by_cases h : v = r
    · subst h
      rw [a.rp] at hx
      simp at hx
      subst hx
      exact ⟨hv, e, List.suffix_refl _⟩
    · obtain ⟨_, k, u, _, hE, hu, h⟩ := a.stp v hv e h
      rw [h] at hN hx
      rcases List.mem_cons.1 hx with rfl | hx
      · exact ⟨hv, e, List.suffix_refl _⟩
      · obtain ⟨h1, h2, h3⟩ := ih u (by simp at hN; omega) hE.lty hu x hx
        exact ⟨h1, h2, by rw [h]; exact h3.trans (List.suffix_cons _ _)⟩

theorem Sr.memP (a : Sr g by_ r base via ev P) (hv : v < g.n) (e : ev v = true) (hx : x ∈ P v) : x < g.n ∧ ev x = true ∧ P x <:+ P v := a.mem _ v (Nat.le_refl _) hv e x hx

theorem Sr.self (a : Sr g by_ r base via ev P) (hv : v < g.n) (e : ev v = true) : v ∈ P v := by
  obtain ⟨l, h⟩ := a.head hv e
  rw [h]; simp
theorem Sr.of_suf (a : Sr g by_ r base via ev P) (hv : v < g.n) (e : ev v = true) {l : List Nat} (h : P v <:+ l) : v ∈ l := h.subset (a.self hv e)

theorem Sr.eqP (a : Sr g by_ r base via ev P) (hx : x < g.n) (ex : ev x = true) (hy : y < g.n) (ey : ev y = true) (h : P x = P y) : x = y := by
  obtain ⟨l, h1⟩ := a.head hx ex
  obtain ⟨l', h2⟩ := a.head hy ey
  rw [h1, h2] at h
  cases h; rfl

theorem Sr.suf_base (a : Sr g by_ r base via ev P) (hv : v < g.n) (e : ev v = true) : P (base v) <:+ P v := by
  obtain ⟨_, _, _, s, h, _⟩ := a.bs v hv e
  exact ⟨s, h.symm⟩

/-- What lies between a node and its base has the same base. -/
theorem Sr.seg (a : Sr g by_ r base via ev P) (hx : x < g.n) (ex : ev x = true) (hy : y < g.n) (ey : ev y = true) (h1 : P (base x) <:+ P y) (h2 : P y <:+ P x) : base y = base x := by
  obtain ⟨b1, b2, b3, s, h, hs⟩ := a.bs x hx ex
  obtain ⟨t, ht⟩ := h1
  obtain ⟨q, hq⟩ := h2
  rw [← ht, h, ← List.append_assoc] at hq
  have hs2 : q ++ t = s := List.append_cancel_right hq
  cases t with
  | nil =>
    have : y = base x := (a.eqP b1 b2 hy ey (by simpa using ht)).symm
    rw [this, b3]
  | cons z t =>
    obtain ⟨l, hl⟩ := a.head hy ey
    rw [hl] at ht
    simp at ht
    exact hs y (by rw [← hs2, ← ht.1]; simp)

theorem Sr.base_mono (a : Sr g by_ r base via ev P) (hx : x < g.n) (ex : ev x = true) (hy : y < g.n) (ey : ev y = true) (h : P y <:+ P x) : P (base y) <:+ P (base x) := by
  rcases List.suffix_or_suffix_of_suffix (a.suf_base hx ex) h with h1 | h1
  · rw [a.seg hx ex hy ey h1 h]
    exact List.suffix_refl _
  · exact (a.suf_base hy ey).trans h1

theorem Sr.root_base (a : Sr g by_ r base via ev P) : base r = r := by
  obtain ⟨b1, b2, _, s, h, _⟩ := a.bs r a.rn a.re
  rw [a.rp] at h
  obtain ⟨l, hl⟩ := a.head b1 b2
  rw [hl] at h
  cases s with
  | nil => simp at h; exact h.1.symm
  | cons z s => simp at h

theorem Sr.root_suf (a : Sr g by_ r base via ev P) : ∀ (N : Nat) (v : Nat), (P v).length ≤ N → v < g.n → ev v = true → [r] <:+ P v := by
  intro N
  induction N with
  | zero =>
    intro v hN hv e
    obtain ⟨l, h⟩ := a.head hv e
    rw [h] at hN; simp at hN
  | succ N ih =>
    intro v hN hv e
    by_cases h : v = r
    · subst h; rw [a.rp]; exact List.suffix_refl _
    · obtain ⟨_, k, u, _, hE, hu, h⟩ := a.stp v hv e h
      rw [h] at hN ⊢
      exact (ih u (by simp at hN; omega) hE.lty hu).trans (List.suffix_cons _ _)
theorem Sr.rootP (a : Sr g by_ r base via ev P) (hv : v < g.n) (e : ev v = true) : [r] <:+ P v := a.root_suf _ v (Nat.le_refl _) hv e

/-- Only the root is even and not matched. -/
theorem Sr.free (a : Sr g by_ r base via ev P) (hv : v < g.n) (e : ev v = true) (h : by_ v = none) : v = r := Classical.byContradiction fun h' => (a.stp v hv e h').1 h

/-- The nearest circle on both ways. -/
structure Top (g : Gr) (base : Nat → Nat) (ev : Nat → Bool) (P : Nat → List Nat) (a b top : Nat) : Prop where
  lt : top < g.n
  te : ev top = true
  tb : base top = top
  sa : P top <:+ P a
  sb : P top <:+ P b
  hi : ∀ β, β < g.n → ev β = true → base β = β → P β <:+ P a → P β <:+ P b → P β <:+ P top

/-- The way back from 'a' ahead of the circle 'top'. -/
structure Pre (g : Gr) (base : Nat → Nat) (ev : Nat → Bool) (P : Nat → List Nat) (a top : Nat) (p : List Nat) (c : Nat) : Prop where
  eq : P a = p ++ P c
  lt : c < g.n
  ce : ev c = true
  cb : base c = top
  pre : ∀ x, x ∈ p → base x ≠ top

variable {b top : Nat} {p q : List Nat} {c d : Nat}

theorem Pre.mem (h : Pre g base ev P x top p c) (hy : y ∈ p) : y ∈ P x := by rw [h.eq]; simp [hy]

/-- A node ahead has its base ahead. -/
theorem Sr.pre_base (s : Sr g by_ r base via ev P) (hx : x < g.n) (ex : ev x = true) (h : Pre g base ev P x top p c) (hy : y ∈ p) (ht : top < g.n) (et : ev top = true) (hs : P (base y) <:+ P top) : False := by
  obtain ⟨h1, h2, h3⟩ := s.memP hx ex (h.mem hy)
  obtain ⟨l1, l2, hl⟩ := List.append_of_mem hy
  have hnd := (s.ok x hx ex).nd
  have hcx : P c <:+ P x := ⟨p, h.eq.symm⟩
  have hct : P top <:+ P c := by have := s.suf_base h.lt h.ce; rw [h.cb] at this; exact this
  have hcy : P c <:+ P y := by
    rcases List.suffix_or_suffix_of_suffix hcx h3 with h4 | h4
    · exact h4
    · have := s.of_suf h1 h2 h4
      rw [h.eq] at hnd
      exact absurd rfl ((List.nodup_append.1 hnd).2.2 y hy y this)
  have := s.seg h1 h2 h.lt h.ce (hs.trans hct) hcy
  exact h.pre y hy (by rw [← this, h.cb])

/-- The two ways back do not meet ahead of the circle. -/
theorem Sr.apart (s : Sr g by_ r base via ev P) (hx : x < g.n) (ex : ev x = true) (hb : b < g.n) (eb : ev b = true) (t : Top g base ev P x b top) (h : Pre g base ev P x top p c) (hy : y ∈ p) : y ∉ P b ∧ mate g by_ y ∉ P b := by
  obtain ⟨h1, h2, h3⟩ := s.memP hx ex (h.mem hy)
  obtain ⟨b1, b2, b3, _⟩ := s.bs y h1 h2
  have key : ∀ z, z ∈ P b → base z = base y → False := fun z hz e => by
    obtain ⟨z1, z2, z3⟩ := s.memP hb eb hz
    refine s.pre_base hx ex h hy t.lt t.te (t.hi _ b1 b2 b3 ((s.suf_base h1 h2).trans h3) ?_)
    rw [← e]
    exact (s.suf_base z1 z2).trans z3
  refine ⟨fun hz => key y hz rfl, fun hz => key _ hz (s.bm y h1 h2 (s.memP hb eb hz).2.1)⟩

theorem Sr.rnot (s : Sr g by_ r base via ev P) (hx : x < g.n) (ex : ev x = true) (h : Pre g base ev P x top p c) : r ∉ p := fun hr => by
  have h1 := s.rootP h.lt h.ce
  have hnd := (s.ok x hx ex).nd
  rw [h.eq] at hnd
  exact (List.nodup_append.1 hnd).2.2 r hr r (h1.subset (by simp)) rfl

/-- The part of a list ahead of a number. -/
def ahd (p : List Nat) (x : Nat) : List Nat := p.takeWhile fun y => y != x
theorem ahd_split {p1 p2 : List Nat} (h : x ∉ p1) : ahd (p1 ++ x :: p2) x = p1 := by
  unfold ahd
  rw [List.takeWhile_append_of_pos (fun y hy => by simp; rintro rfl; exact h hy)]
  simp
theorem ahd_sub : ∀ z, z ∈ ahd p x → z ∈ p := fun z hz => List.takeWhile_subset _ hz

/-- What a way back becomes: 'hit' tells where it turns. -/
def fx (hit : Nat → Option (List Nat)) : List Nat → List Nat
  | [] => []
  | v :: l => match hit v with
    | some t => t
    | none => v :: fx hit l

def hitF (g : Gr) (by_ : Nat → Option Nat) (p q lp lq : List Nat) (v : Nat) : Option (List Nat) :=
  if mate g by_ v ∈ p then some (v :: ((ahd p (mate g by_ v)).reverse.map (mate g by_) ++ lq))
  else if mate g by_ v ∈ q then some (v :: ((ahd q (mate g by_ v)).reverse.map (mate g by_) ++ lp))
  else none

theorem fx_none {hit : Nat → Option (List Nat)} {l : List Nat} (h : ∀ x, x ∈ l → hit x = none) : fx hit l = l := by
  induction l with
  | nil => rfl
  | cons v l ih => rw [fx, h v (by simp)]; simp [ih fun x hx => h x (by simp [hx])]
theorem fx_app {hit : Nat → Option (List Nat)} {l l' : List Nat} (h : ∀ x, x ∈ l → hit x = none) : fx hit (l ++ l') = l ++ fx hit l' := by
  induction l with
  | nil => rfl
  | cons v l ih => rw [List.cons_append, fx, h v (by simp)]; simp [ih fun x hx => h x (by simp [hx])]
theorem fx_split (hit : Nat → Option (List Nat)) (l : List Nat) : (∀ x, x ∈ l → hit x = none) ∨ ∃ l1 z l2 t, l = l1 ++ z :: l2 ∧ (∀ x, x ∈ l1 → hit x = none) ∧ hit z = some t ∧ fx hit l = l1 ++ t := by
  induction l with
  | nil => left; simp
  | cons v l ih =>
    cases hv : hit v with
    | some t => right; exact ⟨[], v, l, t, rfl, by simp, hv, by simp [fx, hv]⟩
    | none =>
      rcases ih with h | ⟨l1, z, l2, t, h1, h2, h3, h4⟩
      · left
        intro x hx
        rcases List.mem_cons.1 hx with rfl | hx
        · exact hv
        · exact h x hx
      · right
        refine ⟨v :: l1, z, l2, t, by rw [h1]; rfl, fun x hx => ?_, h3, by simp [fx, hv, h4]⟩
        rcases List.mem_cons.1 hx with rfl | hx
        · exact hv
        · exact h2 x hx
end

end Blo

/- Matchings in any graph: two ways back and an edge become one circle. -/
namespace Blo

/-- The edge by which a node of the way back is come to from the other side. -/
def lnk (g : Gr) (by_ : Nat → Option Nat) (via : Nat → Option Nat) (i : Nat) (p1 : List Nat) : Option Nat := match p1.getLast? with
  | none => some i
  | some y => via (mate g by_ y)

/-- The way back from the mate of 'x', when the circle is closed. -/
def tn (g : Gr) (by_ : Nat → Option Nat) (p lq : List Nat) (x : Nat) : List Nat := (ahd p x ++ [x]).reverse.map (mate g by_) ++ lq

structure Shr (g : Gr) (by_ : Nat → Option Nat) (r : Nat) (base : Nat → Nat) (via : Nat → Option Nat) (ev : Nat → Bool) (P : Nat → List Nat) (i a b top : Nat) (p : List Nat) (c : Nat) (q : List Nat) (d : Nat)
    (via' : Nat → Option Nat) (inn : Nat → Bool) (hit : Nat → Option (List Nat)) : Prop where
  s : Sr g by_ r base via ev P
  e : g.E i a b
  ea : ev a = true
  eb : ev b = true
  t : Top g base ev P a b top
  pa : Pre g base ev P a top p c
  pb : Pre g base ev P b top q d
  va : ∀ p1 x p2, p = p1 ++ x :: p2 → via' x = lnk g by_ via i p1
  vb : ∀ p1 x p2, q = p1 ++ x :: p2 → via' x = lnk g by_ via i p1
  vs : ∀ z, z ∉ p → z ∉ q → via' z = via z
  inn : ∀ β, inn β = true ↔ ∃ x, (x ∈ p ∨ x ∈ q) ∧ (β = base x ∨ β = base (mate g by_ x))
  ha : ∀ x, x ∈ p → hit (mate g by_ x) = some (tn g by_ p (P b) x)
  hb : ∀ x, x ∈ q → hit (mate g by_ x) = some (tn g by_ q (P a) x)
  hn : ∀ v, v < g.n → mate g by_ v ∉ p → mate g by_ v ∉ q → hit v = none

def base' (base : Nat → Nat) (inn : Nat → Bool) (top : Nat) : Nat → Nat := fun v => if inn (base v) = true then top else base v
def ev' (base : Nat → Nat) (ev inn : Nat → Bool) : Nat → Bool := fun v => ev v || inn (base v)
def P' (ev : Nat → Bool) (P : Nat → List Nat) (hit : Nat → Option (List Nat)) : Nat → List Nat := fun z => if ev z = true then fx hit (P z) else (hit z).getD []

section
variable {g : Gr} {by_ : Nat → Option Nat} {r : Nat} {base : Nat → Nat} {via : Nat → Option Nat} {ev : Nat → Bool} {P : Nat → List Nat} {i a b top : Nat} {p : List Nat} {c : Nat} {q : List Nat} {d : Nat}
  {via' : Nat → Option Nat} {inn : Nat → Bool} {hit : Nat → Option (List Nat)} {v w x y z : Nat}

theorem Top.symm (t : Top g base ev P a b top) : Top g base ev P b a top := ⟨t.lt, t.te, t.tb, t.sb, t.sa, fun β h1 h2 h3 h4 h5 => t.hi β h1 h2 h3 h5 h4⟩

theorem Shr.symm (H : Shr g by_ r base via ev P i a b top p c q d via' inn hit) : Shr g by_ r base via ev P i b a top q d p c via' inn hit :=
  ⟨H.s, H.e.symm, H.eb, H.ea, H.t.symm, H.pb, H.pa, H.vb, H.va, fun z h1 h2 => H.vs z h2 h1, fun β => by rw [H.inn]; constructor <;> rintro ⟨x, h, h'⟩ <;> exact ⟨x, h.symm, h'⟩, H.hb, H.ha, fun v h1 h2 h3 => H.hn v h1 h3 h2⟩

variable (H : Shr g by_ r base via ev P i a b top p c q d via' inn hit)
include H

theorem Shr.px (hx : x ∈ p) : x < g.n ∧ ev x = true ∧ x ≠ r ∧ by_ x ≠ none ∧ P x <:+ P a := by
  obtain ⟨h1, h2, h3⟩ := H.s.memP H.e.ltx H.ea (H.pa.mem hx)
  have h4 : x ≠ r := by rintro rfl; exact H.s.rnot H.e.ltx H.ea H.pa hx
  exact ⟨h1, h2, h4, (H.s.stp x h1 h2 h4).1, h3⟩
theorem Shr.pm (hx : x ∈ p) : mate g by_ x ∉ P a ∧ mate g by_ x ∉ P b ∧ x ∉ P b := by
  obtain ⟨h1, h2, h3, h4, h5⟩ := H.px hx
  obtain ⟨h6, h7⟩ := H.s.apart H.e.ltx H.ea H.e.lty H.eb H.t H.pa hx
  exact ⟨fun h => H.s.mat.ne h1 h4 ((H.s.ok a H.e.ltx H.ea).mf x (H.pa.mem hx) h), h7, h6⟩
theorem Shr.disj (hx : x ∈ p) : x ∉ q := fun h => (H.pm hx).2.2 (H.pb.mem h)
theorem Shr.noB (hz : z ∈ P b) : hit z = none := by
  obtain ⟨h1, h2, _⟩ := H.s.memP H.e.lty H.eb hz
  refine H.hn z h1 (fun h => ?_) fun h => ?_
  · have := (H.pm h).2.1
    rw [H.s.mat.inv h1] at this
    exact this hz
  · have := (H.symm.pm h).1
    rw [H.s.mat.inv h1] at this
    exact this hz
theorem Shr.ofHit (hv : v < g.n) (h : hit v ≠ none) : ∃ x, (x ∈ p ∨ x ∈ q) ∧ v = mate g by_ x := by
  by_cases h1 : mate g by_ v ∈ p
  · exact ⟨_, .inl h1, (H.s.mat.inv hv).symm⟩
  · by_cases h2 : mate g by_ v ∈ q
    · exact ⟨_, .inr h2, (H.s.mat.inv hv).symm⟩
    · exact absurd (H.hn v hv h1 h2) h
/-- A marked circle is that of a node on one of the ways. -/
theorem Shr.inn_p (hx : x ∈ p) : inn (base x) = true ∧ inn (base (mate g by_ x)) = true := ⟨(H.inn _).2 ⟨x, .inl hx, .inl rfl⟩, (H.inn _).2 ⟨x, .inl hx, .inr rfl⟩⟩
theorem Shr.bmate (hx : x ∈ p) : (ev (mate g by_ x) = true ∧ base (mate g by_ x) = base x) ∨ (ev (mate g by_ x) = false ∧ base (mate g by_ x) = mate g by_ x) := by
  obtain ⟨h1, h2, h3, h4, h5⟩ := H.px hx
  cases h : ev (mate g by_ x) with
  | true => exact .inl ⟨rfl, H.s.bm x h1 h2 h⟩
  | false => exact .inr ⟨rfl, H.s.bo _ (H.s.mat.lt h1) h⟩
theorem Shr.inn_ev {β : Nat} (hβ : inn β = true) (he : ev β = true) (hb : base β = β) : ∃ x, (x ∈ p ∨ x ∈ q) ∧ β = base x := by
  obtain ⟨x, hx, h⟩ := (H.inn β).1 hβ
  refine ⟨x, hx, ?_⟩
  rcases h with h | h
  · exact h
  · rcases hx with hx | hx
    · rcases H.bmate hx with ⟨_, h2⟩ | ⟨h1, h2⟩
      · rw [h, h2]
      · rw [h, h2, h1] at he; cases he
    · rcases H.symm.bmate hx with ⟨_, h2⟩ | ⟨h1, h2⟩
      · rw [h, h2]
      · rw [h, h2, h1] at he; cases he
theorem Shr.inn_od {β : Nat} (hβ : inn β = true) (he : ev β = false) : ∃ x, (x ∈ p ∨ x ∈ q) ∧ β = mate g by_ x := by
  obtain ⟨x, hx, h⟩ := (H.inn β).1 hβ
  refine ⟨x, hx, ?_⟩
  have key : ∀ {p : List Nat} {c : Nat} {q : List Nat} {d a b : Nat}, Shr g by_ r base via ev P i a b top p c q d via' inn hit → x ∈ p → β = mate g by_ x := fun H hx => by
    obtain ⟨h1, h2, _⟩ := H.px hx
    rcases h with h | h
    · rw [h, (H.s.bs x h1 h2).2.1] at he; cases he
    · rcases H.bmate hx with ⟨h3, h4⟩ | ⟨_, h4⟩
      · rw [h, h4, (H.s.bs x h1 h2).2.1] at he; cases he
      · rw [h, h4]
  rcases hx with hx | hx
  · exact key H hx
  · exact key H.symm hx
theorem Shr.inn_top : inn top = false := by
  cases h : inn top with
  | false => rfl
  | true =>
    obtain ⟨x, hx, h⟩ := H.inn_ev h H.t.te H.t.tb
    rcases hx with hx | hx
    · exact absurd h.symm (H.pa.pre x hx)
    · exact absurd h.symm (H.pb.pre x hx)
theorem Shr.b'_p (hx : x ∈ p) : base' base inn top x = top ∧ base' base inn top (mate g by_ x) = top ∧ ev' base ev inn x = true ∧ ev' base ev inn (mate g by_ x) = true := by
  obtain ⟨h1, h2⟩ := H.inn_p hx
  simp [base', ev', h1, h2]
omit H in
theorem Shr.b'_top (h : base v = top) : base' base inn top v = top := by unfold base'; rw [h]; simp
theorem Shr.newly (hv : v < g.n) (h1 : ev v = false) (h2 : ev' base ev inn v = true) : ∃ x, (x ∈ p ∨ x ∈ q) ∧ v = mate g by_ x := by
  unfold ev' at h2
  rw [h1, H.s.bo v hv h1] at h2
  exact H.inn_od (by simpa using h2) h1

theorem Shr.PB : P' ev P hit b = P b := by
  unfold P'
  rw [if_pos H.eb]
  exact fx_none fun x hx => H.noB hx
theorem Shr.Pm (hx : x ∈ p) : P' ev P hit (mate g by_ x) = tn g by_ p (P b) x := by
  obtain ⟨h1, _⟩ := H.px hx
  unfold P'
  split
  · next h =>
    obtain ⟨l, hl⟩ := H.s.head (H.s.mat.lt h1) h
    rw [hl, fx, H.ha x hx]
  · rw [H.ha x hx]; rfl

theorem Shr.pnd : p.Nodup := by
  have := (H.s.ok a H.e.ltx H.ea).nd
  rw [H.pa.eq] at this
  exact (List.nodup_append.1 this).1

theorem Shr.tn_at {p1 p2 : List Nat} (h : p = p1 ++ x :: p2) : tn g by_ p (P b) x = (p1 ++ [x]).reverse.map (mate g by_) ++ P b := by
  have := H.pnd
  rw [h] at this
  unfold tn
  rw [h, ahd_split (fun hx => (List.nodup_append.1 this).2.2 x hx x (by simp) rfl)]

omit H in
/-- The way back from a node of a way back is its end. -/
theorem Sr.at_ (s : Sr g by_ r base via ev P) (hv : v < g.n) (ev_ : ev v = true) {l1 l2 : List Nat} (h : P v = l1 ++ x :: l2) : P x = x :: l2 := by
  obtain ⟨h1, h2, t, h3⟩ := s.memP hv ev_ (x := x) (by rw [h]; simp)
  obtain ⟨l, hl⟩ := s.head h1 h2
  have hnd := (s.ok v hv ev_).nd
  rw [hl] at h3
  have e : t = l1 ∧ l = l2 := by
    have h4 := h3.trans h
    rw [h] at hnd
    have n1 : x ∉ l1 := fun hx => (List.nodup_append.1 hnd).2.2 x hx x (by simp) rfl
    have n2 : x ∉ l2 := (List.nodup_cons.1 (List.nodup_append.1 hnd).2.1).1
    rcases List.append_eq_append_iff.1 h4 with ⟨u, h5, h6⟩ | ⟨u, h5, h6⟩
    · cases u with
      | nil => simp at h5 h6; exact ⟨h5.symm, h6⟩
      | cons w u =>
        simp at h6
        exact absurd (by rw [h5, ← h6.1]; simp) n1
    · cases u with
      | nil => simp at h5 h6; exact ⟨h5, h6.symm⟩
      | cons w u =>
        simp at h6
        exact absurd (by rw [h6.2]; simp) n2
  rw [hl, e.2]

theorem Shr.step_p (hx : x ∈ p) : ∃ k u, via' x = some k ∧ g.E k x u ∧ ev' base ev inn u = true ∧ tn g by_ p (P b) x = mate g by_ x :: P' ev P hit u := by
  obtain ⟨p1, p2, hp⟩ := List.append_of_mem hx
  rw [H.va p1 x p2 hp, H.tn_at hp]
  rcases List.eq_nil_or_concat p1 with rfl | ⟨p0, y, rfl⟩
  · refine ⟨i, b, rfl, ?_, by simp [ev', H.eb], by simp [H.PB]⟩
    have h1 := H.pa.eq
    rw [hp] at h1
    obtain ⟨l, h2⟩ := H.s.head H.e.ltx H.ea
    rw [h2] at h1
    simp at h1
    rw [← h1.1]
    exact H.e
  · have hp' : p = p0 ++ y :: (x :: p2) := by rw [hp]; simp
    have hy : y ∈ p := by rw [hp']; simp
    obtain ⟨h1, h2, h3, h4, h5⟩ := H.px hy
    obtain ⟨_, k, u, hk, hE, hu, hP⟩ := H.s.stp y h1 h2 h3
    have h6 : P y = y :: (x :: p2 ++ P c) := H.s.at_ H.e.ltx H.ea (l1 := p0) (by rw [H.pa.eq, hp']; simp)
    rw [hP] at h6
    obtain ⟨l, hl⟩ := H.s.head hE.lty hu
    rw [hl] at h6
    simp at h6
    refine ⟨k, mate g by_ y, by simp [lnk, hk], ?_, (H.b'_p hy).2.2.2, ?_⟩
    · rw [← h6.1]; exact hE.symm
    · rw [H.Pm hy, H.tn_at hp']
      simp

theorem Shr.ok_tn (hx : x ∈ p) : Ok g by_ (tn g by_ p (P b) x) := by
  obtain ⟨p1, p2, hp⟩ := List.append_of_mem hx
  rw [H.tn_at hp]
  have hs : ∀ y, y ∈ p1 ++ [x] → y ∈ p := fun y hy => by rw [hp]; simp at hy ⊢; rcases hy with h | h <;> simp [h]
  have hn : (p1 ++ [x]).Nodup := by
    have := H.pnd
    rw [hp, show p1 ++ x :: p2 = (p1 ++ [x]) ++ p2 by simp] at this
    exact (List.nodup_append.1 this).1
  have mm : ∀ w, w ∈ (p1 ++ [x]).reverse.map (mate g by_) ↔ ∃ y, y ∈ p1 ++ [x] ∧ mate g by_ y = w := fun w => by
    simp only [List.mem_map, List.mem_reverse]
  refine ⟨?_, fun w hw hw' => ?_⟩
  · rw [List.nodup_append]
    refine ⟨?_, (H.s.ok b H.e.lty H.eb).nd, fun u hu v hv e => ?_⟩
    · rw [List.Nodup, List.pairwise_map, List.pairwise_reverse]
      refine hn.imp_of_mem fun {u v} hu hv hne e => hne ?_
      exact H.s.mat.inj (H.px (hs u hu)).1 (H.px (hs v hv)).1 e.symm
    · obtain ⟨y, hy, rfl⟩ := (mm u).1 hu
      exact (H.pm (hs y hy)).2.1 (e ▸ hv)
  · rcases List.mem_append.1 hw with h | h
    · obtain ⟨y, hy, rfl⟩ := (mm w).1 h
      have hyp := hs y hy
      rw [H.s.mat.inv (H.px hyp).1] at hw' ⊢
      rcases List.mem_append.1 hw' with h' | h'
      · obtain ⟨y', hy', e⟩ := (mm y).1 h'
        exact absurd (by rw [e]; exact H.pa.mem hyp) (H.pm (hs y' hy')).1
      · exact absurd h' (H.pm hyp).2.2
    · rcases List.mem_append.1 hw' with h' | h'
      · obtain ⟨y', hy', e⟩ := (mm _).1 h'
        have hyp := hs y' hy'
        have := H.s.mat.inj (H.px hyp).1 (H.s.memP H.e.lty H.eb h).1 e
        exact absurd (by rw [this]; exact h) (H.pm hyp).2.2
      · exact (H.s.ok b H.e.lty H.eb).mf w h h'

/-- A way back that turns is right. -/
theorem Shr.ok_pre (hz : z < g.n) (ez : ev z = true) {l1 l2 : List Nat} (h : P z = l1 ++ mate g by_ x :: l2) (hx : x ∈ p) (hl : ∀ v, v ∈ l1 → hit v = none) : Ok g by_ (l1 ++ tn g by_ p (P b) x) := by
  have hO := H.ok_tn hx
  have hz1 := H.s.ok z hz ez
  obtain ⟨p1, p2, hp⟩ := List.append_of_mem hx
  have hT := H.tn_at hp
  have hs : ∀ y, y ∈ p1 ++ [x] → y ∈ p := fun y hy => by rw [hp]; simp at hy ⊢; rcases hy with h | h <;> simp [h]
  have mm : ∀ w, w ∈ tn g by_ p (P b) x ↔ (∃ y, y ∈ p1 ++ [x] ∧ mate g by_ y = w) ∨ w ∈ P b := fun w => by
    rw [hT, List.mem_append]; simp only [List.mem_map, List.mem_reverse]
  obtain ⟨x1, x2, x3, x4, x5⟩ := H.px hx
  have hw : mate g by_ x ∈ P z := by rw [h]; simp
  obtain ⟨w1, w2, _⟩ := H.s.memP hz ez hw
  have atl : ∀ v, v ∈ l1 → v < g.n ∧ ev v = true ∧ mate g by_ x ∈ P v := fun v hv => by
    obtain ⟨m1, m2, e⟩ := List.append_of_mem hv
    have h1 : P z = m1 ++ v :: (m2 ++ mate g by_ x :: l2) := by rw [h, e]; simp
    obtain ⟨v1, v2, _⟩ := H.s.memP hz ez (x := v) (by rw [h1]; simp)
    exact ⟨v1, v2, by rw [H.s.at_ hz ez h1]; simp⟩
  have A : ∀ v, v ∈ l1 → v ∉ P b := fun v hv hvb => (H.pm hx).2.1 ((H.s.memP H.e.lty H.eb hvb).2.2.subset (atl v hv).2.2)
  have B : ∀ v, v ∈ l1 → ∀ y, y ∈ p → v ≠ mate g by_ y := fun v hv y hy e => by
    have := hl v hv
    rw [e, H.ha y hy] at this
    cases this
  have Cc : ∀ v, v ∈ l1 → v ∉ p := fun v hv hvp => (H.pm hx).1 ((H.px hvp).2.2.2.2.subset (atl v hv).2.2)
  have D : ∀ v, v ∈ l1 → mate g by_ v ∉ P b := fun v hv hvb => by
    obtain ⟨v1, v2, v3⟩ := atl v hv
    obtain ⟨m1, m2, m3⟩ := H.s.memP H.e.lty H.eb hvb
    have hbm := H.s.bm v v1 v2 m2
    rw [H.pb.eq] at hvb
    rcases List.mem_append.1 hvb with hq | hd
    · have := hl v hv
      rw [← H.s.mat.inv v1, H.hb _ hq] at this
      cases this
    · obtain ⟨_, _, n3⟩ := H.s.memP H.pb.lt H.pb.ce hd
      have n4 := H.s.base_mono H.pb.lt H.pb.ce m1 m2 n3
      rw [hbm, H.pb.cb] at n4
      obtain ⟨_, _, _, s, e, hs'⟩ := H.s.bs v v1 v2
      rw [e] at v3
      rcases List.mem_append.1 v3 with h5 | h5
      · have h6 := hs' _ h5
        rw [H.s.bm x x1 x2 w2] at h6
        rw [← h6] at n4
        exact H.s.pre_base H.e.ltx H.ea H.pa hx H.t.lt H.t.te n4
      · exact (H.pm hx).2.1 (H.t.sb.subset (n4.subset h5))
  have nT : ∀ v, v ∈ l1 → v ∉ tn g by_ p (P b) x := fun v hv hvt => by
    rcases (mm v).1 hvt with ⟨y, hy, e⟩ | h'
    · exact B v hv y (hs y hy) e.symm
    · exact A v hv h'
  have nM : ∀ v, v ∈ l1 → mate g by_ v ∉ tn g by_ p (P b) x := fun v hv hvt => by
    rcases (mm _).1 hvt with ⟨y, hy, e⟩ | h'
    · have := H.s.mat.inj (H.px (hs y hy)).1 (atl v hv).1 e
      exact Cc v hv (this ▸ hs y hy)
    · exact D v hv h'
  have hnd := hz1.nd
  rw [h] at hnd
  refine ⟨?_, fun v hv hv' => ?_⟩
  · rw [List.nodup_append]
    exact ⟨(List.nodup_append.1 hnd).1, hO.nd, fun u hu v hv e => nT u hu (e ▸ hv)⟩
  · rcases List.mem_append.1 hv with h1 | h1
    · rcases List.mem_append.1 hv' with h2 | h2
      · exact hz1.mf v (by rw [h]; simp [h1]) (by rw [h]; simp [h2])
      · exact absurd h2 (nM v h1)
    · rcases List.mem_append.1 hv' with h2 | h2
      · have hv1 : v < g.n := by
          rcases (mm v).1 h1 with ⟨y, hy, e⟩ | h'
          · rw [← e]; exact H.s.mat.lt (H.px (hs y hy)).1
          · exact (H.s.memP H.e.lty H.eb h').1
        have := nM _ h2
        rw [H.s.mat.inv hv1] at this
        exact absurd h1 this
      · exact hO.mf v h1 h2

theorem Shr.seg_c : ∃ s, P c = s ++ P top ∧ ∀ y, y ∈ s → base' base inn top y = top := by
  obtain ⟨_, _, _, s, e, hs⟩ := H.s.bs c H.pa.lt H.pa.ce
  rw [H.pa.cb] at e hs
  exact ⟨s, e, fun y hy => Shr.b'_top (hs y hy)⟩
theorem Shr.seg_b : ∃ s, P b = s ++ P top ∧ ∀ y, y ∈ s → base' base inn top y = top := by
  obtain ⟨s, e, hs⟩ := H.symm.seg_c
  refine ⟨q ++ s, by rw [H.pb.eq, e]; simp, fun y hy => ?_⟩
  rcases List.mem_append.1 hy with h | h
  · exact (H.symm.b'_p h).1
  · exact hs y h
theorem Shr.seg_tn (hx : x ∈ p) : ∃ s, tn g by_ p (P b) x = s ++ P top ∧ ∀ y, y ∈ s → base' base inn top y = top := by
  obtain ⟨s, e, hs⟩ := H.seg_b
  refine ⟨(ahd p x ++ [x]).reverse.map (mate g by_) ++ s, by unfold tn; rw [e]; simp, fun y hy => ?_⟩
  rcases List.mem_append.1 hy with h | h
  · simp only [List.mem_map, List.mem_reverse, List.mem_append, List.mem_singleton] at h
    obtain ⟨z, hz, rfl⟩ := h
    have : z ∈ p := by
      rcases hz with h | rfl
      · exact ahd_sub z h
      · exact hx
    exact (H.b'_p this).2.1
  · exact hs y h

theorem Shr.Ptop : P' ev P hit top = P top := by
  unfold P'
  rw [if_pos H.t.te]
  exact fx_none fun x hx => H.noB (H.t.sb.subset hx)

/-- What a hit yields ends at the circle's base. -/
theorem Shr.seg_hit (hv : v < g.n) {t : List Nat} (h : hit v = some t) : ∃ s, t = s ++ P top ∧ ∀ y, y ∈ s → base' base inn top y = top := by
  obtain ⟨x, hx, rfl⟩ := H.ofHit hv (by rw [h]; simp)
  rcases hx with hx | hx
  · rw [H.ha x hx] at h; cases h; exact H.seg_tn hx
  · rw [H.hb x hx] at h; cases h; exact H.symm.seg_tn hx

theorem Shr.base_in {β : Nat} (hx : x ∈ p) (h : β = base x) : β ∈ p := by
  obtain ⟨h1, h2, h3, h4, h5⟩ := H.px hx
  obtain ⟨b1, b2, b3, _⟩ := H.s.bs x h1 h2
  rw [← h] at b1 b2 b3
  have hs : P β <:+ P a := by rw [h]; exact (H.s.suf_base h1 h2).trans h5
  have := H.s.of_suf b1 b2 hs
  rw [H.pa.eq] at this
  rcases List.mem_append.1 this with h6 | h6
  · exact h6
  · exfalso
    obtain ⟨_, _, h7⟩ := H.s.memP H.pa.lt H.pa.ce h6
    have h8 := H.s.base_mono H.pa.lt H.pa.ce b1 b2 h7
    rw [b3, H.pa.cb, h] at h8
    exact H.s.pre_base H.e.ltx H.ea H.pa hx H.t.lt H.t.te h8

theorem Shr.bs_in (hv : v < g.n) (e : ev v = true) (hx : x ∈ p) (h : base v = base x) : ∃ s, P' ev P hit v = s ++ P top ∧ ∀ y, y ∈ s → base' base inn top y = top := by
  obtain ⟨b1, b2, b3, s, hs, hsb⟩ := H.s.bs v hv e
  have hin : inn (base v) = true := by rw [h]; exact (H.inn_p hx).1
  have hbs : ∀ y, y ∈ s → base' base inn top y = top := fun y hy => by unfold base'; rw [hsb y hy, if_pos hin]
  have hlt : ∀ y, y ∈ s → y < g.n := fun y hy => (H.s.memP hv e (by rw [hs]; simp [hy])).1
  unfold P'
  rw [if_pos e]
  rcases fx_split hit s with h1 | ⟨l1, w, l2, t, h1, h2, h3, h4⟩
  · rw [hs, fx_app h1]
    have hβ := H.base_in hx h
    obtain ⟨p1, p2, hp⟩ := List.append_of_mem hβ
    have hPβ : P (base v) = base v :: (p2 ++ P c) := H.s.at_ H.e.ltx H.ea (l1 := p1) (by rw [H.pa.eq, hp]; simp)
    have hno : fx hit (P (base v)) = P (base v) := fx_none fun z hz => H.symm.noB ((H.px hβ).2.2.2.2.subset hz)
    obtain ⟨s', e', hs'⟩ := H.seg_c
    refine ⟨s ++ (base v :: p2 ++ s'), by rw [hno, hPβ, e']; simp, fun y hy => ?_⟩
    rcases List.mem_append.1 hy with h5 | h5
    · exact hbs y h5
    · rcases List.mem_append.1 h5 with h6 | h6
      · exact (H.b'_p (x := y) (by rw [hp]; simp at h6 ⊢; rcases h6 with h | h <;> simp [h])).1
      · exact hs' y h6
  · have hw : w < g.n := hlt w (by rw [h1]; simp)
    obtain ⟨s', e', hs'⟩ := H.seg_hit hw h3
    have hfx : ∀ (l l' : List Nat), (∀ x, x ∈ l1 → hit x = none) → fx hit (l1 ++ w :: l2 ++ l') = l1 ++ t := fun _ l' _ => by
      rw [List.append_assoc, fx_app h2, List.cons_append, fx, h3]
    refine ⟨l1 ++ s', by rw [hs, h1, hfx [] _ h2, e']; simp, fun y hy => ?_⟩
    rcases List.mem_append.1 hy with h5 | h5
    · exact hbs y (by rw [h1]; simp [h5])
    · exact hs' y h5

theorem Shr.sr : Sr g by_ r (base' base inn top) via' (ev' base ev inn) (P' ev P hit) := by
  have s := H.s
  have np : r ∉ p := s.rnot H.e.ltx H.ea H.pa
  have nq : r ∉ q := s.rnot H.e.lty H.eb H.pb
  have hr : hit r = none := H.hn r s.rn (by rw [mate_none s.rf]; exact np) (by rw [mate_none s.rf]; exact nq)
  refine ⟨s.mat, s.rn, s.rf, by simp [ev', s.re], ?_, fun v hv e hne => ?_, fun v hv e => ?_, fun v hv e => ?_, fun v hv e => ?_, fun v hv e hn => ?_, fun v hv e em => ?_, fun v hv e hb => ?_⟩
  · unfold P'
    rw [if_pos s.re, s.rp]
    exact fx_none fun x hx => by simp at hx; rw [hx]; exact hr
  · by_cases h1 : mate g by_ v ∈ p
    · obtain ⟨k, u, h2, h3, h4, h5⟩ := H.step_p h1
      have h6 := H.Pm h1
      rw [s.mat.inv hv] at h5 h6
      exact ⟨by rw [← s.mat.by_mate hv]; exact (H.px h1).2.2.2.1, k, u, h2, h3, h4, h6.trans h5⟩
    by_cases h1' : mate g by_ v ∈ q
    · obtain ⟨k, u, h2, h3, h4, h5⟩ := H.symm.step_p h1'
      have h6 := H.symm.Pm h1'
      rw [s.mat.inv hv] at h5 h6
      exact ⟨by rw [← s.mat.by_mate hv]; exact (H.symm.px h1').2.2.2.1, k, u, h2, h3, h4, h6.trans h5⟩
    have e0 : ev v = true := by
      cases h : ev v with
      | true => rfl
      | false =>
        obtain ⟨x, hx, h2⟩ := H.newly hv h e
        have hx1 : x < g.n := by
          rcases hx with hx | hx
          · exact (H.px hx).1
          · exact (H.symm.px hx).1
        rw [h2, s.mat.inv hx1] at h1 h1'
        rcases hx with hx | hx
        · exact absurd hx h1
        · exact absurd hx h1'
    obtain ⟨h2, k, u, h3, h4, h5, h6⟩ := s.stp v hv e0 hne
    refine ⟨h2, k, u, by rw [H.vs _ h1 h1']; exact h3, h4, by simp [ev', h5], ?_⟩
    unfold P'
    rw [if_pos e0, if_pos h5, h6, fx, H.hn v hv h1 h1']
  · cases e0 : ev v with
    | true =>
      unfold P'
      rw [if_pos e0]
      rcases fx_split hit (P v) with h1 | ⟨l1, w, l2, t, h1, h2, h3, h4⟩
      · rw [fx_none h1]; exact s.ok v hv e0
      · rw [h4]
        have hw : w < g.n := (s.memP hv e0 (by rw [h1]; simp)).1
        obtain ⟨x, hx, rfl⟩ := H.ofHit hw (by rw [h3]; simp)
        rcases hx with hx | hx
        · rw [H.ha x hx] at h3; cases h3; exact H.ok_pre hv e0 h1 hx h2
        · rw [H.hb x hx] at h3; cases h3; exact H.symm.ok_pre hv e0 h1 hx h2
    | false =>
      obtain ⟨x, hx, rfl⟩ := H.newly hv e0 e
      rcases hx with hx | hx
      · rw [H.Pm hx]; exact H.ok_tn hx
      · rw [H.symm.Pm hx]; exact H.symm.ok_tn hx
  · have fin : ∀ {u : Nat}, base' base inn top v = top → (∃ s, P' ev P hit v = s ++ P top ∧ ∀ y, y ∈ s → base' base inn top y = top) →
        base' base inn top v < g.n ∧ ev' base ev inn (base' base inn top v) = true ∧ base' base inn top (base' base inn top v) = base' base inn top v ∧ ∃ s, P' ev P hit v = s ++ P' ev P hit (base' base inn top v) ∧ ∀ x, x ∈ s → base' base inn top x = base' base inn top v := fun {u} hb hs => by
      rw [hb, H.Ptop]
      exact ⟨H.t.lt, by simp [ev', H.t.te], Shr.b'_top H.t.tb, hs⟩
    cases hin : inn (base v) with
    | true =>
      refine fin (u := 0) (by simp [base', hin]) ?_
      cases e0 : ev v with
      | true =>
        obtain ⟨b1, b2, b3, _⟩ := s.bs v hv e0
        obtain ⟨x, hx, h⟩ := H.inn_ev hin b2 b3
        rcases hx with hx | hx
        · exact H.bs_in hv e0 hx h
        · exact H.symm.bs_in hv e0 hx h
      | false =>
        obtain ⟨x, hx, rfl⟩ := H.newly hv e0 e
        rcases hx with hx | hx
        · rw [H.Pm hx]; exact H.seg_tn hx
        · rw [H.symm.Pm hx]; exact H.symm.seg_tn hx
    | false =>
      have e0 : ev v = true := by simpa [ev', hin] using e
      obtain ⟨b1, b2, b3, t, ht, htb⟩ := s.bs v hv e0
      have noh : ∀ y, y ∈ t → hit y = none := fun y hy => Classical.byContradiction fun hc => by
        have hy1 : y < g.n := (s.memP hv e0 (by rw [ht]; simp [hy])).1
        obtain ⟨x, hx, h⟩ := H.ofHit hy1 hc
        have := (H.inn (base v)).2 ⟨x, hx, .inr (by rw [← h, htb y hy])⟩
        rw [hin] at this
        cases this
      have hP : P' ev P hit v = t ++ P' ev P hit (base v) := by
        unfold P'
        rw [if_pos e0, if_pos b2, ht, fx_app noh]
      have hb : base' base inn top v = base v := by simp [base', hin]
      rw [hb, hP]
      refine ⟨b1, by simp [ev', b2], by simp [base', b3, hin], t, rfl, fun x hx => by simp [base', htb x hx, hin]⟩
  · have h1 : ev v = false ∧ inn (base v) = false := by simpa [ev'] using e
    unfold base'
    rw [h1.2]
    simp [s.bo v hv h1.1]
  · have h1 : ev v = false ∧ inn (base v) = false := by simpa [ev'] using e
    have h2 : v ∉ p := fun h => by rw [(H.px h).2.1] at h1; exact absurd h1.1 (by simp)
    have h3 : v ∉ q := fun h => by rw [(H.symm.px h).2.1] at h1; exact absurd h1.1 (by simp)
    rw [H.vs v h2 h3] at hn
    obtain ⟨h4, h5⟩ := s.od v hv h1.1 hn
    exact ⟨h4, by simp [ev', h5]⟩
  · have key : ∀ x, (x ∈ p ∨ x ∈ q) → base' base inn top (mate g by_ x) = base' base inn top x := fun x hx => by
      rcases hx with hx | hx
      · rw [(H.b'_p hx).1, (H.b'_p hx).2.1]
      · rw [(H.symm.b'_p hx).1, (H.symm.b'_p hx).2.1]
    have hlt : ∀ x, (x ∈ p ∨ x ∈ q) → x < g.n := fun x hx => by
      rcases hx with hx | hx
      · exact (H.px hx).1
      · exact (H.symm.px hx).1
    cases e0 : ev v with
    | false =>
      obtain ⟨x, hx, rfl⟩ := H.newly hv e0 e
      rw [s.mat.inv (hlt x hx), key x hx]
    | true =>
      cases e1 : ev (mate g by_ v) with
      | false =>
        obtain ⟨x, hx, h⟩ := H.newly (s.mat.lt hv) e1 em
        have := s.mat.inj hv (hlt x hx) h
        rw [this]; exact key x hx
      | true =>
        have := s.bm v hv e0 e1
        unfold base'
        rw [this]
  · have up : ∀ z, ev z = true → ev' base ev inn z = true := fun z h => by simp [ev', h]
    cases e0 : ev v with
    | false =>
      obtain ⟨x, hx, rfl⟩ := H.newly hv e0 e
      rcases hx with hx | hx
      · rw [s.mat.inv (H.px hx).1]; exact up _ (H.px hx).2.1
      · rw [s.mat.inv (H.symm.px hx).1]; exact up _ (H.symm.px hx).2.1
    | true =>
      by_cases hb0 : base v = v
      · cases hin : inn (base v) with
        | false => rw [base', hin] at hb; simp at hb; exact absurd hb0 hb
        | true =>
          obtain ⟨b1, b2, b3, _⟩ := s.bs v hv e0
          obtain ⟨x, hx, h⟩ := H.inn_ev hin b2 b3
          rcases hx with hx | hx
          · have := H.base_in hx h
            rw [hb0] at this
            exact (H.b'_p this).2.2.2
          · have := H.symm.base_in hx h
            rw [hb0] at this
            exact (H.symm.b'_p this).2.2.2
      · exact up _ (s.bn v hv e0 hb0)
end

end Blo

/- Matchings in any graph: a search begins and grows; what a failing one leaves. -/
namespace Blo
open Go.HW (upd upd_same upd_ne)

/-- All edges at even nodes have been looked along but those of 'Pn'. -/
structure Scan (g : Gr) (base : Nat → Nat) (via : Nat → Option Nat) (ev : Nat → Bool) (Pn : Nat → Nat → Prop) : Prop where
  ok : ∀ i x y, g.E i x y → ev x = true → ¬ Pn x i → (ev y = false → via y ≠ none) ∧ (ev y = true → base x = base y ∨ Pn y i)

theorem Scan.done {g : Gr} {base : Nat → Nat} {via : Nat → Option Nat} {ev : Nat → Bool} {Pn Pn' : Nat → Nat → Prop} {v i0 : Nat} (H : Scan g base via ev Pn) (hP : ∀ x i, Pn x i → Pn' x i ∨ (x = v ∧ i = i0))
    (h0 : ∀ w, g.E i0 v w → (ev w = false → via w ≠ none) ∧ (ev w = true → base v = base w)) : Scan g base via ev Pn' := by
  refine ⟨fun i x y e ex hn => ?_⟩
  by_cases hx : x = v ∧ i = i0
  · obtain ⟨rfl, rfl⟩ := hx
    obtain ⟨h1, h2⟩ := h0 y e
    exact ⟨h1, fun h => .inl (h2 h)⟩
  · have hn0 : ¬ Pn x i := fun h => (hP x i h).elim hn hx
    obtain ⟨h1, h2⟩ := H.ok i x y e ex hn0
    refine ⟨h1, fun h => ?_⟩
    rcases h2 h with h3 | h3
    · exact .inl h3
    · rcases hP y i h3 with h4 | ⟨rfl, rfl⟩
      · exact .inr h4
      · exact .inl ((h0 x e.symm).2 ex).symm

theorem Scan.mono {g : Gr} {base : Nat → Nat} {via : Nat → Option Nat} {ev : Nat → Bool} {Pn Pn' : Nat → Nat → Prop} (H : Scan g base via ev Pn) (hP : ∀ x i y, g.E i x y → Pn x i → Pn' x i) : Scan g base via ev Pn' :=
  ⟨fun i x y e ex hn => have h := H.ok i x y e ex fun h => hn (hP x i y e h); ⟨h.1, fun h' => (h.2 h').imp id (hP y i x e.symm)⟩⟩

/-- A search begins. -/
theorem Sr.init {g : Gr} {by_ : Nat → Option Nat} {r : Nat} (M : Mat g by_) (hr : r < g.n) (hb : by_ r = none) : Sr g by_ r (fun v => v) (fun _ => none) (fun v => decide (v = r)) (fun _ => [r]) := by
  refine ⟨M, hr, hb, by simp, rfl, fun v _ e hne => ?_, fun v _ e => ?_, fun v hv e => ?_, fun _ _ _ => rfl, fun v _ _ h => absurd rfl h, fun v hv e e' => ?_, fun v _ _ h => absurd rfl h⟩
  · simp at e; exact absurd e hne
  · refine ⟨by simp, fun x hx hx' => ?_⟩
    simp at hx hx'
    subst hx
    exact hx'
  · simp at e
    subst e
    exact ⟨hv, by simp, rfl, [], rfl, by simp⟩
  · simp only [decide_eq_true_eq] at e e'
    exact e'.trans e.symm

section
variable {g : Gr} {by_ : Nat → Option Nat} {r : Nat} {base : Nat → Nat} {via : Nat → Option Nat} {ev : Nat → Bool} {P : Nat → List Nat}

theorem Sr.mate_odd (s : Sr g by_ r base via ev P) {w : Nat} (hw : w < g.n) (hv : via w = none) (hb : by_ w ≠ none) : ev (mate g by_ w) = false := by
  cases h : ev (mate g by_ w) with
  | false => rfl
  | true =>
    exfalso
    have hm := s.mat.lt hw
    have hne : mate g by_ w ≠ r := fun e => hb (by rw [← s.mat.by_mate hw, e, s.rf])
    obtain ⟨_, k, u, hk, _⟩ := s.stp _ hm h hne
    rw [s.mat.inv hw, hv] at hk
    cases hk

/-- A node that was not seen is an odd one now, and what it is matched to an even one. -/
theorem Sr.label (s : Sr g by_ r base via ev P) {i v w : Nat} (e : g.E i v w) (hev : ev v = true) (hw : ev w = false) (hvia : via w = none) (hb : by_ w ≠ none) :
    Sr g by_ r base (upd via w (some i)) (upd ev (mate g by_ w) true) (upd P (mate g by_ w) (mate g by_ w :: P v)) := by
  have hwn := e.lty
  have hm := s.mat.lt hwn
  have hmo := s.mate_odd hwn hvia hb
  have hmw : mate g by_ w ≠ w := s.mat.ne hwn hb
  have hmb := s.bo _ hm hmo
  obtain ⟨m, hme⟩ : ∃ m, m = mate g by_ w := ⟨_, rfl⟩
  rw [← hme] at hm hmo hmw hmb ⊢
  have hmr : m ≠ r := fun h => by rw [h, s.re] at hmo; cases hmo
  have hmate : mate g by_ m = w := by rw [hme, s.mat.inv hwn]
  have evn : ∀ z, ev z = true → z ≠ m := fun z h h' => by rw [h', hmo] at h; cases h
  have up : ∀ z, ev z = true → upd ev m true z = true := fun z h => by rw [upd_ne _ _ (evn z h)]; exact h
  have dn : ∀ z, z ≠ m → upd ev m true z = true → ev z = true := fun z hz h => by rwa [upd_ne _ _ hz] at h
  have Pne : ∀ z, ev z = true → upd P m (m :: P v) z = P z := fun z h => upd_ne _ _ (evn z h)
  refine ⟨s.mat, s.rn, s.rf, up _ s.re, by rw [Pne _ s.re]; exact s.rp, fun z hz ez hne => ?_, fun z hz ez => ?_, fun z hz ez => ?_, fun z hz ez => ?_, fun z hz ez hn => ?_, fun z hz ez em => ?_, fun z hz ez hbz => ?_⟩
  · by_cases h : z = m
    · subst h
      refine ⟨by rw [hme, s.mat.by_mate hwn]; exact hb, i, v, ?_, ?_, up _ hev, ?_⟩
      · rw [hmate, upd_same]
      · rw [hmate]; exact e.symm
      · rw [upd_same, Pne _ hev]
    · have ez' := dn z h ez
      obtain ⟨h1, k, u, h2, h3, h4, h5⟩ := s.stp z hz ez' hne
      refine ⟨h1, k, u, ?_, h3, up _ h4, by rw [Pne _ ez', Pne _ h4]; exact h5⟩
      rw [upd_ne _ _ (fun h' => h (by rw [hme, ← h', s.mat.inv hz]))]
      exact h2
  · by_cases h : z = m
    · subst h
      rw [upd_same]
      have hO := s.ok v e.ltx hev
      have nP : ∀ x, x ∈ P v → ev x = true := fun x hx => (s.memP e.ltx hev hx).2.1
      refine ⟨List.nodup_cons.2 ⟨fun hx => evn _ (nP _ hx) rfl, hO.nd⟩, fun x hx hx' => ?_⟩
      rcases List.mem_cons.1 hx with rfl | hx
      · rw [hmate] at hx' ⊢
        rcases List.mem_cons.1 hx' with h | h
        · exact h
        · rw [nP _ h] at hw; cases hw
      · rcases List.mem_cons.1 hx' with h | h
        · have : x = w := by rw [← hmate, ← h, s.mat.inv (s.memP e.ltx hev hx).1]
          rw [← this, nP _ hx] at hw
          cases hw
        · exact hO.mf x hx h
    · have ez' := dn z h ez
      rw [Pne _ ez']
      exact s.ok z hz ez'
  · by_cases h : z = m
    · subst h
      rw [hmb]
      exact ⟨hm, upd_same _ _ _, hmb, [], rfl, by simp⟩
    · have ez' := dn z h ez
      obtain ⟨h1, h2, h3, t, h4, h5⟩ := s.bs z hz ez'
      exact ⟨h1, up _ h2, h3, t, by rw [Pne _ ez', Pne _ h2]; exact h4, h5⟩
  · by_cases h : z = m
    · subst h; exact hmb
    · rw [upd_ne _ _ h] at ez; exact s.bo z hz ez
  · have hzm : z ≠ m := fun h => by rw [h, upd_same] at ez; cases ez
    rw [upd_ne _ _ hzm] at ez
    by_cases h : z = w
    · subst h
      exact ⟨hb, by rw [← hme]; exact upd_same _ _ _⟩
    · rw [upd_ne _ _ h] at hn
      obtain ⟨h1, h2⟩ := s.od z hz ez hn
      exact ⟨h1, up _ h2⟩
  · by_cases h : z = m
    · subst h
      rw [hmate, upd_ne _ _ hmw.symm, hw] at em
      cases em
    · have ez' := dn z h ez
      by_cases h2 : mate g by_ z = m
      · have : z = w := by rw [← hmate, ← h2, s.mat.inv hz]
        rw [this, hw] at ez'
        cases ez'
      · exact s.bm z hz ez' (dn _ h2 em)
  · by_cases h : z = m
    · subst h; exact absurd hmb hbz
    · exact up _ (s.bn z hz (dn z h ez) hbz)

/-- What a search that fails leaves: even nodes, odd nodes. -/
structure Hung (g : Gr) (by_ : Nat → Option Nat) (r : Nat) (base : Nat → Nat) (E O : Nat → Prop) : Prop where
  rE : E r
  rf : by_ r = none
  rb : base r = r
  lt : ∀ v, E v → v < g.n
  disj : ∀ v, E v → ¬ O v
  edge : ∀ i v w, g.E i v w → E v → O w ∨ (E w ∧ base w = base v)
  mt : ∀ v, E v → base v ≠ v → by_ v ≠ none ∧ E (mate g by_ v) ∧ base (mate g by_ v) = base v
  bO : ∀ v, E v → base v = v → v ≠ r → by_ v ≠ none ∧ O (mate g by_ v)
  om : ∀ x, O x → x < g.n ∧ by_ x ≠ none ∧ E (mate g by_ x) ∧ base (mate g by_ x) = mate g by_ x
  free : ∀ v, E v → by_ v = none → v = r

theorem Sr.hung (s : Sr g by_ r base via ev P) (H : Scan g base via ev fun _ _ => False) : Hung g by_ r base (fun v => v < g.n ∧ ev v = true) (fun v => v < g.n ∧ ev v = false ∧ via v ≠ none) := by
  refine ⟨⟨s.rn, s.re⟩, s.rf, s.root_base, fun v h => h.1, fun v h h' => absurd (h.2.symm.trans h'.2.1) (by simp), fun i v w e h => ?_, fun v h hb => ?_, fun v h hb hne => ?_, fun x h => ?_, fun v h hb => s.free h.1 h.2 hb⟩
  · obtain ⟨h1, h2⟩ := H.ok i v w e h.2 id
    cases hw : ev w with
    | false => exact .inl ⟨e.lty, rfl, h1 hw⟩
    | true => exact .inr ⟨⟨e.lty, rfl⟩, ((h2 hw).resolve_right id).symm⟩
  · have hm := s.bn v h.1 h.2 hb
    have hne : v ≠ r := fun e => hb (by rw [e]; exact s.root_base)
    exact ⟨(s.stp v h.1 h.2 hne).1, ⟨s.mat.lt h.1, hm⟩, s.bm v h.1 h.2 hm⟩
  · obtain ⟨h1, k, u, h2, _⟩ := s.stp v h.1 h.2 hne
    refine ⟨h1, s.mat.lt h.1, ?_, by rw [h2]; simp⟩
    cases hm : ev (mate g by_ v) with
    | false => rfl
    | true =>
      exfalso
      have hmn := s.mat.lt h.1
      have hbm := s.bm v h.1 h.2 hm
      rw [hb] at hbm
      have hs := s.suf_base hmn hm
      rw [hbm] at hs
      have h3 := (s.ok _ hmn hm).mf _ (s.self hmn hm) (by rw [s.mat.inv h.1]; exact s.of_suf h.1 h.2 hs)
      rw [s.mat.inv h.1] at h3
      exact s.mat.ne h.1 h1 h3.symm
  · obtain ⟨h1, h2⟩ := s.od x h.1 h.2.1 h.2.2
    refine ⟨h.1, h1, ⟨s.mat.lt h.1, h2⟩, Classical.byContradiction fun hb => ?_⟩
    have := s.bn _ (s.mat.lt h.1) h2 hb
    rw [s.mat.inv h.1, h.2.1] at this
    cases this

variable {r' : Nat} {base' : Nat → Nat} {via' : Nat → Option Nat} {ev' : Nat → Bool} {P' : Nat → List Nat} {E O : Nat → Prop}

/-- Another search comes to no odd node of a failing one by an even way, and enters its circles at their bases. -/
theorem Hung.blocked (H : Hung g by_ r base E O) (s : Sr g by_ r' base' via' ev' P') : ∀ (N v : Nat), (P' v).length ≤ N → v < g.n → ev' v = true → ¬ O v ∧ (E v → base v ∈ P' v) := by
  intro N
  induction N with
  | zero =>
    intro v hN hv e
    have := s.self hv e
    rw [List.eq_nil_of_length_eq_zero (Nat.le_zero.1 hN)] at this
    cases this
  | succ N ih =>
    intro v hN hv e
    by_cases h : v = r'
    · subst h
      refine ⟨fun h => (H.om v h).2.1 s.rf, fun h => ?_⟩
      have := H.free v h s.rf
      subst this
      rw [H.rb, s.rp]; simp
    · obtain ⟨hb, k, u, hk, hE, hu, hP⟩ := s.stp v hv e h
      rw [hP] at hN
      obtain ⟨i1, i2⟩ := ih u (by simp at hN; omega) hE.lty hu
      have hO := s.ok v hv e
      have hne := s.mat.ne hv hb
      refine ⟨fun ho => ?_, fun he => ?_⟩
      · obtain ⟨_, _, h1, h2⟩ := H.om v ho
        rcases H.edge _ _ _ hE h1 with h3 | ⟨h3, h4⟩
        · exact i1 h3
        · rw [h2] at h4
          have := i2 h3
          rw [h4] at this
          exact hne (hO.mf v (s.self hv e) (by rw [hP]; simp [this]))
      · by_cases hbv : base v = v
        · rw [hbv]; exact s.self hv e
        · obtain ⟨_, h1, h2⟩ := H.mt v he hbv
          rcases H.edge _ _ _ hE h1 with h3 | ⟨h3, h4⟩
          · exact absurd h3 i1
          · have := i2 h3
            rw [h4, h2] at this
            rw [hP]; simp [this]

theorem Hung.block (H : Hung g by_ r base E O) (s : Sr g by_ r' base' via' ev' P') {v : Nat} (hv : v < g.n) (e : ev' v = true) : ¬ O v ∧ (E v → base v ∈ P' v) := H.blocked s _ v (Nat.le_refl _) hv e

/-- Where a failing search from the same root has been, another one fails. -/
theorem Hung.same (H : Hung g by_ r base E O) (s : Sr g by_ r base' via' ev' P') : ∀ (N v : Nat), (P' v).length ≤ N → v < g.n → ev' v = true → E v := by
  intro N
  induction N with
  | zero =>
    intro v hN hv e
    have := s.self hv e
    rw [List.eq_nil_of_length_eq_zero (Nat.le_zero.1 hN)] at this
    cases this
  | succ N ih =>
    intro v hN hv e
    by_cases h : v = r
    · subst h; exact H.rE
    · obtain ⟨hb, k, u, hk, hE, hu, hP⟩ := s.stp v hv e h
      rw [hP] at hN
      have i1 := ih u (by simp at hN; omega) hE.lty hu
      have hO := s.ok v hv e
      rcases H.edge _ _ _ hE.symm i1 with h1 | ⟨h1, h2⟩
      · have := (H.om _ h1).2.2.1
        rwa [s.mat.inv hv] at this
      · by_cases hbm : base (mate g by_ v) = mate g by_ v
        · exfalso
          have := (H.block s hE.lty hu).2 i1
          rw [← h2, hbm] at this
          exact s.mat.ne hv hb (hO.mf v (s.self hv e) (by rw [hP]; simp [this]))
        · have := (H.mt _ h1 hbm).2.1
          rwa [s.mat.inv hv] at this

theorem Hung.nofind (H : Hung g by_ r base E O) (s : Sr g by_ r base' via' ev' P') {i v w : Nat} (e : g.E i v w) (hev : ev' v = true) (hw : ev' w = false) (hb : by_ w = none) : False := by
  have hv := H.same s _ v (Nat.le_refl _) e.ltx hev
  rcases H.edge _ _ _ e hv with h | ⟨h, _⟩
  · exact (H.om _ h).2.1 hb
  · have := H.free w h hb
    rw [this, s.re] at hw
    cases hw

theorem Hung.in_mate (H : Hung g by_ r base E O) {x : Nat} (hb : by_ x ≠ none) (h : E x ∨ O x) : E (mate g by_ x) ∨ O (mate g by_ x) := by
  rcases h with h | h
  · by_cases h1 : base x = x
    · by_cases h2 : x = r
      · subst h2
        exact absurd H.rf hb
      · exact .inr (H.bO x h h1 h2).2
    · exact .inl (H.mt x h h1).2.1
  · exact .inl (H.om x h).2.2.1
end

end Blo

/- Matchings in any graph: a way is turned; failing searches stay. -/
namespace Blo
open Go.HW (upd upd_same upd_ne)

/-- The matching, when the way back is turned. -/
def flipL (g : Gr) (by_ via : Nat → Option Nat) : List Nat → Nat → (Nat → Option Nat) → (Nat → Option Nat)
  | [], _, b => b
  | z :: l, w, b => flipL g by_ via l (mate g by_ z) (upd (upd b w (via w)) z (via w))

/-- On the way: all is matched but 'w'. -/
structure Mid (g : Gr) (by_ : Nat → Option Nat) (l : List Nat) (w : Nat) (b : Nat → Option Nat) : Prop where
  keep : ∀ x, x ∈ l → b x = by_ x ∧ b (mate g by_ x) = by_ x
  mt : ∀ x i, x < g.n → x ≠ w → b x = some i → g.E i x (g.ot i x) ∧ b (g.ot i x) = some i ∧ g.ot i x ≠ w
  lt : w < g.n
  nw : w ∉ l
  nm : ∀ x, x ∈ l → mate g by_ x ≠ w

section
variable {g : Gr} {by_ : Nat → Option Nat} {r : Nat} {base : Nat → Nat} {via via1 : Nat → Option Nat} {ev : Nat → Bool} {P : Nat → List Nat}

theorem Sr.flip_last (s : Sr g by_ r base via ev P) {w i : Nat} {b : Nat → Option Nat} (md : Mid g by_ [r] w b) (hv : via1 w = some i) (e : g.E i w r) : Mat g (upd (upd b w (via1 w)) r (via1 w)) := by
  have hwr : w ≠ r := e.ne
  have hbr : b r = none := by rw [(md.keep r (by simp)).1, s.rf]
  rw [hv]
  refine ⟨fun x k hx hk => ?_⟩
  by_cases h1 : x = r
  · subst h1
    rw [upd_same] at hk
    cases hk
    rw [e.symm.ot]
    exact ⟨e.symm, by rw [upd_ne _ _ hwr, upd_same]⟩
  · rw [upd_ne _ _ h1] at hk
    by_cases h2 : x = w
    · subst h2
      rw [upd_same] at hk
      cases hk
      rw [e.ot]
      exact ⟨e, upd_same _ _ _⟩
    · rw [upd_ne _ _ h2] at hk
      obtain ⟨h3, h4, h5⟩ := md.mt x k hx h2 hk
      refine ⟨h3, ?_⟩
      have h6 : g.ot k x ≠ r := fun h => by rw [h, hbr] at h4; cases h4
      rw [upd_ne _ _ h6, upd_ne _ _ h5]
      exact h4

theorem Sr.flip_step (s : Sr g by_ r base via ev P) {v u w i : Nat} {b : Nat → Option Nat} (hv : v < g.n) (hev : ev v = true) (hb : by_ v ≠ none) (hP : P v = v :: P u) (md : Mid g by_ (P v) w b) (hi : via1 w = some i) (e : g.E i w v) :
    Mid g by_ (P u) (mate g by_ v) (upd (upd b w (via1 w)) v (via1 w)) := by
  have hO := s.ok v hv hev
  have hvP := s.self hv hev
  have hmv := s.mat.ne hv hb
  have hm := s.mat.lt hv
  have hsub : ∀ x, x ∈ P u → x ∈ P v := fun x hx => by rw [hP]; simp [hx]
  have hnd := hO.nd
  rw [hP] at hnd
  have hvu := (List.nodup_cons.1 hnd).1
  have hmP : mate g by_ v ∉ P v := fun h => hmv (hO.mf v hvP h)
  rw [hi]
  have kv := md.keep v hvP
  refine ⟨fun x hx => ?_, fun x k hx hne hk => ?_, hm, fun h => hmP (hsub _ h), fun x hx h => ?_⟩
  · have hx' := hsub x hx
    have h1 : x ≠ v := fun h => hvu (h ▸ hx)
    have h2 : x ≠ w := fun h => md.nw (h ▸ hx')
    have h3 : mate g by_ x ≠ v := fun h => by
      have := hO.mf x hx' (by rw [h]; exact hvP)
      exact h1 (by rw [← this, h])
    rw [upd_ne _ _ h1, upd_ne _ _ h2, upd_ne _ _ h3, upd_ne _ _ (md.nm x hx')]
    exact md.keep x hx'
  · by_cases h1 : x = v
    · subst h1
      rw [upd_same] at hk
      cases hk
      rw [e.symm.ot]
      exact ⟨e.symm, by rw [upd_ne _ _ e.ne, upd_same], (md.nm x hvP).symm⟩
    · rw [upd_ne _ _ h1] at hk
      by_cases h2 : x = w
      · subst h2
        rw [upd_same] at hk
        cases hk
        rw [e.ot]
        exact ⟨e, upd_same _ _ _, hmv.symm⟩
      · rw [upd_ne _ _ h2] at hk
        obtain ⟨h3, h4, h5⟩ := md.mt x k hx h2 hk
        have h6 : g.ot k x ≠ v := fun h => by
          rw [h, kv.1] at h4
          have e2 := s.mat.edge hv h4
          rw [h] at h3
          exact hne (h3.symm.det e2)
        have h7 : g.ot k x ≠ mate g by_ v := fun h => by
          rw [h, kv.2] at h4
          have e2 := s.mat.edge hv h4
          rw [h] at h3
          exact h1 (h3.symm.det e2.symm)
        refine ⟨h3, ?_, h7⟩
        rw [upd_ne _ _ h6, upd_ne _ _ h5]
        exact h4
  · have := s.mat.inj (s.memP hv hev (hsub x hx)).1 hv h
    exact hvu (this ▸ hx)

theorem Sr.mid0 (s : Sr g by_ r base via ev P) {v w : Nat} (hv : v < g.n) (hev : ev v = true) (hw : w < g.n) (hew : ev w = false) (hb : by_ w = none) : Mid g by_ (P v) w by_ := by
  have nP : w ∉ P v := fun h => by rw [(s.memP hv hev h).2.1] at hew; cases hew
  refine ⟨fun x hx => ⟨rfl, s.mat.by_mate (s.memP hv hev hx).1⟩, fun x i hx hne hi => ?_, hw, nP, fun x hx h => ?_⟩
  · have h1 := s.mat.ok x i hx hi
    exact ⟨h1.1, h1.2, fun h => by rw [h, hb] at h1; cases h1.2⟩
  · have h1 := (s.memP hv hev hx).1
    have h2 := s.mat.by_mate h1
    rw [h, hb] at h2
    rw [mate_none h2.symm] at h
    exact nP (h ▸ hx)

/-- The turned matching. -/
theorem Sr.flip (s : Sr g by_ r base via ev P) : ∀ (N v w i : Nat) (b : Nat → Option Nat), (P v).length ≤ N → v < g.n → ev v = true → Mid g by_ (P v) w b → via1 w = some i → g.E i w v → (∀ x, x ∈ P v → x ≠ r → via1 (mate g by_ x) = via (mate g by_ x)) →
    Mat g (flipL g by_ via1 (P v) w b) ∧ (∀ x, x ≠ w → x ∉ P v → (∀ y, y ∈ P v → x ≠ mate g by_ y) → flipL g by_ via1 (P v) w b x = b x) ∧ (∀ x, (x = w ∨ x ∈ P v ∨ ∃ y, y ∈ P v ∧ x = mate g by_ y) → flipL g by_ via1 (P v) w b x ≠ none) := by
  intro N
  induction N with
  | zero =>
    intro v w i b hN hv hev
    have := s.self hv hev
    rw [List.eq_nil_of_length_eq_zero (Nat.le_zero.1 hN)] at this
    cases this
  | succ N ih =>
    intro v w i b hN hv hev md hi e hvia
    by_cases h : v = r
    · subst h
      rw [s.rp] at md ⊢
      simp only [flipL]
      refine ⟨s.flip_last md hi e, fun x h1 h2 _ => ?_, fun x hx => ?_⟩
      · simp at h2
        rw [upd_ne _ _ h2, upd_ne _ _ h1]
      · rw [hi]
        have : x = w ∨ x = v := by
          rcases hx with h | h | ⟨y, hy, h⟩
          · exact .inl h
          · simp at h; exact .inr h
          · simp at hy; rw [hy, mate_none s.rf] at h; exact .inr h
        rcases this with rfl | rfl
        · rw [upd_ne _ _ e.ne, upd_same]; simp
        · rw [upd_same]; simp
    · obtain ⟨hb, k, u, hk, hE, hu, hP⟩ := s.stp v hv hev h
      have hstep := s.flip_step (via1 := via1) hv hev hb hP md hi e
      have hk1 : via1 (mate g by_ v) = some k := by rw [hvia v (s.self hv hev) h, hk]
      have hsub : ∀ x, x ∈ P u → x ∈ P v := fun x hx => by rw [hP]; simp [hx]
      have hl : (P u).length ≤ N := by rw [hP] at hN; simp at hN; omega
      obtain ⟨m1, m2, m3⟩ := ih u (mate g by_ v) k _ hl hE.lty hu hstep hk1 hE fun x hx hne => hvia x (hsub x hx) hne
      have hf : flipL g by_ via1 (P v) w b = flipL g by_ via1 (P u) (mate g by_ v) (upd (upd b w (via1 w)) v (via1 w)) := by rw [hP]; rfl
      rw [hf]
      have hvP := s.self hv hev
      have hO := s.ok v hv hev
      have hnd := hO.nd
      rw [hP] at hnd
      have hvu := (List.nodup_cons.1 hnd).1
      have hmv := s.mat.ne hv hb
      refine ⟨m1, fun x h1 h2 h3 => ?_, fun x hx => ?_⟩
      · rw [m2 x (h3 v hvP) (fun h => h2 (hsub x h)) fun y hy => h3 y (hsub y hy)]
        rw [upd_ne _ _ (fun h => h2 (by rw [h]; exact hvP)), upd_ne _ _ h1]
      · by_cases c : x = mate g by_ v ∨ x ∈ P u ∨ ∃ y, y ∈ P u ∧ x = mate g by_ y
        · exact m3 x c
        · rw [m2 x (fun h => c (.inl h)) (fun h => c (.inr (.inl h))) fun y hy h => c (.inr (.inr ⟨y, hy, h⟩)), hi]
          rcases hx with rfl | h | ⟨y, hy, hxy⟩
          · by_cases hxv : x = v
            · subst hxv; rw [upd_same]; simp
            · rw [upd_ne _ _ hxv, upd_same]; simp
          · rw [hP] at h
            rcases List.mem_cons.1 h with rfl | h
            · rw [upd_same]; simp
            · exact absurd (.inr (.inl h)) c
          · rw [hP] at hy
            rcases List.mem_cons.1 hy with rfl | hy
            · exact absurd (.inl hxy) c
            · exact absurd (.inr (.inr ⟨y, hy, hxy⟩)) c

variable {r2 : Nat} {base2 : Nat → Nat} {E O : Nat → Prop}

/-- A way to a node that is not matched keeps off a failing search from another root. -/
theorem Hung.away (H : Hung g by_ r2 base2 E O) (s : Sr g by_ r base via ev P) {i v w : Nat} (e : g.E i v w) (hev : ev v = true) (hw : ev w = false) (hb : by_ w = none) (hr : r ≠ r2) : ¬ (E w ∨ O w) ∧ ∀ z, z ∈ P v → ¬ (E z ∨ O z) := by
  have hOw : ¬ O w := fun h => (H.om w h).2.1 hb
  have hEw : ¬ E w := fun h => by
    have hwr := H.free w h hb
    rcases H.edge _ _ _ e.symm h with h1 | ⟨h1, h2⟩
    · exact (H.block s e.ltx hev).1 h1
    · have h3 := (H.block s e.ltx hev).2 h1
      rw [h2, hwr, H.rb] at h3
      have := (s.memP e.ltx hev h3).2.1
      rw [← hwr, hw] at this
      cases this
  refine ⟨fun h => h.elim hEw hOw, ?_⟩
  have hv : ¬ (E v ∨ O v) := fun h => by
    rcases h with h | h
    · rcases H.edge _ _ _ e h with h1 | h1
      · exact hOw h1
      · exact hEw h1.1
    · exact (H.block s e.ltx hev).1 h
  have key : ∀ (N v : Nat), (P v).length ≤ N → v < g.n → ev v = true → ¬ (E v ∨ O v) → ∀ z, z ∈ P v → ¬ (E z ∨ O z) := by
    intro N
    induction N with
    | zero =>
      intro v hN hv hev _ z hz
      rw [List.eq_nil_of_length_eq_zero (Nat.le_zero.1 hN)] at hz
      cases hz
    | succ N ih =>
      intro v hN hv hev hn z hz
      by_cases h : v = r
      · subst h
        rw [s.rp] at hz
        simp at hz
        rw [hz]; exact hn
      · obtain ⟨hbv, k, u, hk, hE, hu, hP⟩ := s.stp v hv hev h
        rw [hP] at hz hN
        rcases List.mem_cons.1 hz with rfl | hz
        · exact hn
        · refine ih u (by simp at hN; omega) hE.lty hu (fun h => ?_) z hz
          have hm : ¬ (E (mate g by_ v) ∨ O (mate g by_ v)) := fun h => by
            have := H.in_mate (by rw [s.mat.by_mate hv]; exact hbv) h
            rw [s.mat.inv hv] at this
            exact hn this
          rcases h with h | h
          · rcases H.edge _ _ _ hE.symm h with h1 | h1
            · exact hm (.inr h1)
            · exact hm (.inl h1.1)
          · exact (H.block s hE.lty hu).1 h
  exact key _ v (Nat.le_refl _) e.ltx hev hv

/-- A failing search fails also for a matching that is the same where it has been. -/
theorem Hung.other (H : Hung g by_ r2 base2 E O) {by2 : Nat → Option Nat} (h : ∀ x, E x ∨ O x → by2 x = by_ x) : Hung g by2 r2 base2 E O := by
  have hm : ∀ x, E x ∨ O x → mate g by2 x = mate g by_ x := fun x hx => by unfold mate; rw [h x hx]
  refine ⟨H.rE, by rw [h _ (.inl H.rE)]; exact H.rf, H.rb, H.lt, H.disj, H.edge, fun v hv hb => ?_, fun v hv hb hne => ?_, fun x hx => ?_, fun v hv hb => ?_⟩
  · rw [h _ (.inl hv), hm _ (.inl hv)]; exact H.mt v hv hb
  · rw [h _ (.inl hv), hm _ (.inl hv)]; exact H.bO v hv hb hne
  · rw [h _ (.inr hx), hm _ (.inr hx)]; exact H.om x hx
  · rw [h _ (.inl hv)] at hb; exact H.free v hv hb
end

end Blo

/- Matchings in any graph: what the scan of a search keeps. -/
namespace Blo
open Go.HW (upd upd_same upd_ne)

theorem unseen_new {n : Nat} {f2 : Nat → Bool} : ∀ (nw : List Nat) (f : Nat → Bool), nw.Nodup → (∀ i, f i = true → f2 i = true) → (∀ v, v ∈ nw → v < n ∧ f v = false ∧ f2 v = true) → nw.length + Pair.unseen n f2 ≤ Pair.unseen n f := by
  intro nw
  induction nw with
  | nil => intro f _ m _; simpa using Pair.unseen_le n f f2 fun i _ => m i
  | cons v nw ih =>
    intro f nd m h
    obtain ⟨h1, h2, h3⟩ := h v (by simp)
    have nd' := List.nodup_cons.1 nd
    have := ih (upd f v true) nd'.2 (fun i hi => by
      by_cases e : i = v
      · rw [e]; exact h3
      · rw [upd_ne _ _ e] at hi; exact m i hi) (fun w hw => by
      obtain ⟨a1, a2, a3⟩ := h w (by simp [hw])
      have : w ≠ v := fun e => nd'.1 (e ▸ hw)
      exact ⟨a1, by rw [upd_ne _ _ this]; exact a2, a3⟩)
    have h4 := Pair.unseen_lt n f (upd f v true) (fun i _ hi => by
      by_cases e : i = v
      · rw [e, upd_same]
      · rw [upd_ne _ _ e]; exact hi) h1 h2 (by rw [upd_same])
    simp only [List.length_cons]
    omega

theorem unseen_all (n : Nat) (f : Nat → Bool) : Pair.unseen n f ≤ n := by
  induction n with
  | zero => simp [Pair.unseen]
  | succ n ih => simp only [Pair.unseen]; split <;> omega

section
variable {g : Gr} {by_ : Nat → Option Nat} {r : Nat} {base base2 : Nat → Nat} {via via2 : Nat → Option Nat} {ev ev2 : Nat → Bool} {P : Nat → List Nat} {Pn Pn' : Nat → Nat → Prop}

/-- What stays scanned when circles close. -/
theorem Scan.more (H : Scan g base via ev Pn) (bas : ∀ v w, base v = base w → base2 v = base2 w) (vsm : ∀ v, v < g.n → ev2 v = false → ev v = false ∧ (via v ≠ none → via2 v ≠ none))
    (new : ∀ v i, v < g.n → ev2 v = true → ev v = false → Pn' v i) (old : ∀ x i, Pn x i → Pn' x i) : Scan g base2 via2 ev2 Pn' := by
  refine ⟨fun i x y e ex hn => ?_⟩
  have ex1 : ev x = true := by
    cases h : ev x with
    | true => rfl
    | false => exact absurd (new x i e.ltx ex h) hn
  obtain ⟨h1, h2⟩ := H.ok i x y e ex1 fun h => hn (old x i h)
  refine ⟨fun hy => ?_, fun hy => ?_⟩
  · obtain ⟨h3, h4⟩ := vsm y e.lty hy
    exact h4 (h1 h3)
  · cases h : ev y with
    | true => exact (h2 h).imp (bas x y) (old y i)
    | false => exact .inr (new y i e.lty hy h)

theorem Scan.label (H : Scan g base via ev Pn) {w m i : Nat} (old : ∀ x i, Pn x i → Pn' x i) (new : ∀ i, Pn' m i) : Scan g base (upd via w (some i)) (upd ev m true) Pn' := by
  refine H.more (fun _ _ h => h) (fun v _ h => ?_) (fun v j _ h1 h2 => ?_) old
  · have hne : v ≠ m := fun e => by rw [e, upd_same] at h; cases h
    rw [upd_ne _ _ hne] at h
    refine ⟨h, fun h' => ?_⟩
    by_cases e : v = w
    · rw [e, upd_same]; simp
    · rw [upd_ne _ _ e]; exact h'
  · have : v = m := Classical.byContradiction fun hne => by rw [upd_ne _ _ hne, h2] at h1; cases h1
    rw [this]; exact new j

/-- An edge that is passed over because it lies in one circle, or matches the node. -/
theorem Sr.passed (s : Sr g by_ r base via ev P) {i v w : Nat} (e : g.E i v w) (hv : ev v = true) (h : base w = base v ∨ by_ v = some i) : (ev w = false → via w ≠ none) ∧ (ev w = true → base v = base w) := by
  rcases h with h | h
  · refine ⟨fun hw => ?_, fun _ => h.symm⟩
    rw [s.bo w e.lty hw] at h
    have := (s.bs v e.ltx hv).2.1
    rw [← h, hw] at this
    cases this
  · have hm : mate g by_ v = w := by rw [mate_some h]; exact e.ot
    have hne : v ≠ r := fun e => by rw [e, s.rf] at h; cases h
    refine ⟨fun _ => ?_, fun hw => ?_⟩
    · obtain ⟨_, k, u, h1, _⟩ := s.stp v e.ltx hv hne
      rw [← hm, h1]; simp
    · rw [← hm] at hw ⊢
      exact (s.bm v e.ltx hv hw).symm
end

end Blo

/- Matchings in any graph: one look of Solve; what it leaves. -/
namespace Blo
open Go.HW (upd upd_same upd_ne)

/-- The even nodes of a failing search. -/
def Fails (g : Gr) (by_ : Nat → Option Nat) (r : Nat) (ev : Nat → Bool) : Prop :=
  ∃ (base : Nat → Nat) (via : Nat → Option Nat) (P : Nat → List Nat), Sr g by_ r base via ev P ∧ Scan g base via ev fun _ _ => False

/-- A search from there fails. -/
def Hangs (g : Gr) (by_ : Nat → Option Nat) (r : Nat) : Prop := ∃ (base : Nat → Nat) (E O : Nat → Prop), Hung g by_ r base E O

section
variable {g : Gr} {by_ : Nat → Option Nat} {r : Nat} {base : Nat → Nat} {via : Nat → Option Nat} {ev : Nat → Bool} {P : Nat → List Nat}

theorem Sr.hangs (s : Sr g by_ r base via ev P) (H : Scan g base via ev fun _ _ => False) : Hangs g by_ r := ⟨_, _, _, s.hung H⟩

theorem Sr.via1 (s : Sr g by_ r base via ev P) {i v w : Nat} (hv : v < g.n) (hev : ev v = true) (hb : by_ w = none) : ∀ x, x ∈ P v → x ≠ r → (upd via w (some i)) (mate g by_ x) = via (mate g by_ x) := by
  intro x hx hne
  obtain ⟨h1, h2, _⟩ := s.memP hv hev hx
  refine upd_ne _ _ fun e => ?_
  have h3 := s.mat.by_mate h1
  rw [e, hb] at h3
  exact (s.stp x h1 h2 hne).1 h3.symm

/-- A way that is found makes the matching larger, and other searches fail as before. -/
theorem Sr.augment (s : Sr g by_ r base via ev P) {i v w : Nat} (e : g.E i v w) (hev : ev v = true) (hw : ev w = false) (hb : by_ w = none) :
    Mat g (flipL g by_ (upd via w (some i)) (P v) w by_) ∧ flipL g by_ (upd via w (some i)) (P v) w by_ r ≠ none ∧ (∀ x, flipL g by_ (upd via w (some i)) (P v) w by_ x = none → by_ x = none) ∧
      ∀ r2, r ≠ r2 → Hangs g by_ r2 → Hangs g (flipL g by_ (upd via w (some i)) (P v) w by_) r2 := by
  obtain ⟨m1, m2, m3⟩ := s.flip (via1 := upd via w (some i)) _ v w i by_ (Nat.le_refl _) e.ltx hev (s.mid0 e.ltx hev e.lty hw hb) (by rw [upd_same]) e.symm (s.via1 e.ltx hev hb)
  refine ⟨m1, m3 r (.inr (.inl ((s.rootP e.ltx hev).subset (by simp)))), fun x hx => ?_, fun r2 hr H => ?_⟩
  · by_cases c : x = w ∨ x ∈ P v ∨ ∃ y, y ∈ P v ∧ x = mate g by_ y
    · exact absurd hx (m3 x c)
    · rw [m2 x (fun h => c (.inl h)) (fun h => c (.inr (.inl h))) fun y hy h => c (.inr (.inr ⟨y, hy, h⟩))] at hx
      exact hx
  · obtain ⟨base2, E, O, H⟩ := H
    obtain ⟨a1, a2⟩ := H.away s e hev hw hb hr
    refine ⟨base2, E, O, H.other fun x hx => m2 x (fun h => a1 (h ▸ hx)) (fun h => a2 x h hx) fun y hy h => ?_⟩
    subst h
    have hyn := (s.memP e.ltx hev hy).1
    by_cases hby : by_ y = none
    · rw [mate_none hby] at hx
      exact a2 y hy hx
    · have h2 := H.in_mate (x := mate g by_ y) (by rw [s.mat.by_mate hyn]; exact hby) hx
      rw [s.mat.inv hyn] at h2
      exact a2 y hy h2

theorem Hangs.nofind (H : Hangs g by_ r) (s : Sr g by_ r base via ev P) {i v w : Nat} (e : g.E i v w) (hev : ev v = true) (hw : ev w = false) (hb : by_ w = none) : False := by
  obtain ⟨b, E, O, H⟩ := H
  exact H.nofind s e hev hw hb

/-- Failing searches from one root have the same even nodes. -/
theorem Fails.same {ev' : Nat → Bool} (a : Fails g by_ r ev) (b : Fails g by_ r ev') {u : Nat} (hu : u < g.n) (h : ev' u = true) : ev u = true := by
  obtain ⟨base, via, P, s, H⟩ := a
  obtain ⟨_, _, _, s', _⟩ := b
  exact ((s.hung H).same s' _ u (Nat.le_refl _) hu h).2
end

end Blo
