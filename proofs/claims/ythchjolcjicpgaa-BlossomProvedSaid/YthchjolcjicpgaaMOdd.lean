/- The parts of a graph, found one by one, in plain Lean. -/
import Derived.Test.YthchjolcjicpgaaPred
import Derived.Test.YthchjolcjicpgaaMBlo
import Derived.Test.YthchjolcjicpgaaMPair4
namespace Odd
open Go.HW (upd upd_same upd_ne)

/-- 'adj' is between nodes below 'n' that aren't left out. -/
structure Adj (n : Nat) (wo : Nat → Bool) (adj : Nat → Nat → Prop) : Prop where
  lt : ∀ v w, adj v w → v < n ∧ wo v = false
  sy : ∀ v w, adj v w → adj w v

structure Parts (n : Nat) (wo : Nat → Bool) (adj : Nat → Nat → Prop) (seen : Nat → Bool) (cs : List (List Nat)) : Prop where
  mem : ∀ v, v < n → (seen v = true ↔ wo v = true ∨ ∃ c, c ∈ cs ∧ v ∈ c)
  ok : ∀ c, c ∈ cs → ∀ v, v ∈ c → v < n ∧ wo v = false
  nd : cs.flatten.Nodup
  cl : ∀ c, c ∈ cs → ∀ v w, v ∈ c → adj v w → w ∈ c
  co : ∀ c, c ∈ cs → ∀ Q : Nat → Prop, (∀ v w, Q v → adj v w → Q w) → ∀ u, u ∈ c → Q u → ∀ w, w ∈ c → Q w

structure Dfs (n : Nat) (adj : Nat → Nat → Prop) (seen0 : Nat → Bool) (s : Nat) (seen : Nat → Bool) (c stack : List Nat) : Prop where
  sn : ∀ v, v < n → (seen v = true ↔ seen0 v = true ∨ v ∈ c)
  cv : ∀ v, v ∈ c → v < n ∧ seen0 v = false
  nd : c.Nodup
  st : ∀ v, v ∈ stack → v < n
  cl : ∀ Q : Nat → Prop, (∀ v w, Q v → adj v w → Q w) → Q s → (∀ v, v ∈ c → Q v) ∧ ∀ v, v ∈ stack → Q v
  ed : ∀ v w, v ∈ c → adj v w → seen w = true ∨ w ∈ stack
  rt : seen s = true ∨ s ∈ stack

section
variable {n : Nat} {wo : Nat → Bool} {adj : Nat → Nat → Prop} {seen0 seen : Nat → Bool} {s v : Nat} {c stack l nb : List Nat} {cs : List (List Nat)}

theorem Parts.start (wo : Nat → Bool) (adj : Nat → Nat → Prop) : Parts n wo adj wo [] :=
  ⟨fun v _ => by simp, fun c h => by simp at h, by simp, fun c h => by simp at h, fun c h => by simp at h⟩

theorem Dfs.start (hs : s < n) : Dfs n adj seen0 s seen0 [] [s] :=
  ⟨fun v _ => by simp, fun v h => by simp at h, by simp, fun v h => by simp at h; omega, fun Q _ hq => ⟨fun v h => by simp at h, fun v h => by simp at h; rw [h]; exact hq⟩, fun v w h => by simp at h, .inr (by simp)⟩

theorem Dfs.skip (d : Dfs n adj seen0 s seen c (l ++ [v])) (h : seen v = true) : Dfs n adj seen0 s seen c l := by
  refine ⟨d.sn, d.cv, d.nd, fun w hw => d.st w (by simp [hw]), fun Q h1 h2 => ⟨(d.cl Q h1 h2).1, fun w hw => (d.cl Q h1 h2).2 w (by simp [hw])⟩, fun x w hx ha => ?_, ?_⟩
  · rcases d.ed x w hx ha with h1 | h1
    · exact .inl h1
    · rcases List.mem_append.1 h1 with h2 | h2
      · exact .inr h2
      · simp at h2; rw [h2]; exact .inl h
  · rcases d.rt with h1 | h1
    · exact .inl h1
    · rcases List.mem_append.1 h1 with h2 | h2
      · exact .inr h2
      · simp at h2; rw [h2]; exact .inl h

theorem Dfs.take (d : Dfs n adj seen0 s seen c (l ++ [v])) (h : seen v = false) (hn : ∀ w, w ∈ nb → w < n) (ha : ∀ w, wo v = false → w ∈ nb → adj v w) (hw : wo v = false) (ha2 : ∀ w, adj v w → w ∈ nb) : Dfs n adj seen0 s (upd seen v true) (c ++ [v]) (l ++ nb) := by
  have hv := d.st v (by simp)
  have h0 : seen0 v = false := by
    cases e : seen0 v with
    | false => rfl
    | true => rw [(d.sn v hv).2 (.inl e)] at h; cases h
  have hc : v ∉ c := fun e => by rw [(d.sn v hv).2 (.inr e)] at h; cases h
  have up : ∀ w, seen w = true → upd seen v true w = true := fun w hw => by
    by_cases e : w = v
    · rw [e, upd_same]
    · rw [upd_ne _ _ e]; exact hw
  refine ⟨fun w hwn => ?_, fun w hwc => ?_, ?_, fun w hwl => ?_, fun Q h1 h2 => ⟨fun w hwc => ?_, fun w hwl => ?_⟩, fun x w hx hxw => ?_, ?_⟩
  · by_cases e : w = v
    · rw [e, upd_same]; simp
    · rw [upd_ne _ _ e, d.sn w hwn]; simp [e]
  · rcases List.mem_append.1 hwc with h1 | h1
    · exact d.cv w h1
    · simp at h1; rw [h1]; exact ⟨hv, h0⟩
  · rw [List.nodup_append]
    refine ⟨d.nd, by simp, fun a ha b hb => ?_⟩
    simp at hb
    rintro rfl
    exact hc (hb ▸ ha)
  · rcases List.mem_append.1 hwl with h1 | h1
    · exact d.st w (by simp [h1])
    · exact hn w h1
  · rcases List.mem_append.1 hwc with h3 | h3
    · exact (d.cl Q h1 h2).1 w h3
    · simp at h3; rw [h3]; exact (d.cl Q h1 h2).2 v (by simp)
  · rcases List.mem_append.1 hwl with h3 | h3
    · exact (d.cl Q h1 h2).2 w (by simp [h3])
    · exact h1 v w ((d.cl Q h1 h2).2 v (by simp)) (ha w hw h3)
  · rcases List.mem_append.1 hx with h3 | h3
    · rcases d.ed x w h3 hxw with h4 | h4
      · exact .inl (up w h4)
      · rcases List.mem_append.1 h4 with h5 | h5
        · exact .inr (by simp [h5])
        · simp at h5; rw [h5, upd_same]; exact .inl rfl
    · simp at h3; subst h3
      exact .inr (by simp [ha2 w hxw])
  · rcases d.rt with h4 | h4
    · exact .inl (up s h4)
    · rcases List.mem_append.1 h4 with h5 | h5
      · exact .inr (by simp [h5])
      · simp at h5; rw [h5, upd_same]; exact .inl rfl

theorem Parts.part (a : Adj n wo adj) (p : Parts n wo adj seen0 cs) (d : Dfs n adj seen0 s seen c []) : Parts n wo adj seen (cs ++ [c]) ∧ seen s = true := by
  have hcl : ∀ v w, v ∈ c → adj v w → w ∈ c := fun v w hv hvw => by
    obtain ⟨hwn, hww⟩ := a.lt w v (a.sy v w hvw)
    have h1 : seen w = true := (d.ed v w hv hvw).resolve_right (by simp)
    rcases (d.sn w hwn).1 h1 with h2 | h2
    · exfalso
      rcases (p.mem w hwn).1 h2 with h3 | ⟨c', hc', h3⟩
      · rw [hww] at h3; cases h3
      · have h4 := p.cl c' hc' w v h3 (a.sy v w hvw)
        obtain ⟨hvn, hv0⟩ := d.cv v hv
        rw [(p.mem v hvn).2 (.inr ⟨c', hc', h4⟩)] at hv0
        cases hv0
    · exact h2
  refine ⟨⟨fun v hv => ?_, fun c' hc' v hv => ?_, ?_, fun c' hc' v w hv hvw => ?_, fun c' hc' Q hQ u hu hqu w hw => ?_⟩, d.rt.resolve_right (by simp)⟩
  · rw [d.sn v hv, p.mem v hv]
    constructor
    · rintro ((h | ⟨c', h1, h2⟩) | h)
      · exact .inl h
      · exact .inr ⟨c', by simp [h1], h2⟩
      · exact .inr ⟨c, by simp, h⟩
    · rintro (h | ⟨c', h1, h2⟩)
      · exact .inl (.inl h)
      · rcases List.mem_append.1 h1 with h3 | h3
        · exact .inl (.inr ⟨c', h3, h2⟩)
        · simp at h3; rw [h3] at h2; exact .inr h2
  · rcases List.mem_append.1 hc' with h3 | h3
    · exact p.ok c' h3 v hv
    · simp at h3; subst h3
      obtain ⟨h1, h2⟩ := d.cv v hv
      refine ⟨h1, ?_⟩
      cases h : wo v with
      | false => rfl
      | true => rw [(p.mem v h1).2 (.inl h)] at h2; cases h2
  · rw [List.flatten_append, List.nodup_append]
    refine ⟨p.nd, by simpa using d.nd, fun x hx y hy => ?_⟩
    rintro rfl
    simp at hy
    obtain ⟨c', hc', hxc⟩ := List.mem_flatten.1 hx
    obtain ⟨h1, h2⟩ := d.cv x hy
    rw [(p.mem x h1).2 (.inr ⟨c', hc', hxc⟩)] at h2
    cases h2
  · rcases List.mem_append.1 hc' with h3 | h3
    · exact p.cl c' h3 v w hv hvw
    · simp at h3; subst h3; exact hcl v w hv hvw
  · rcases List.mem_append.1 hc' with h3 | h3
    · exact p.co c' h3 Q hQ u hu hqu w hw
    · simp at h3; subst h3
      by_cases hs : Q s
      · exact (d.cl Q hQ hs).1 w hw
      · have := (d.cl (fun v => ¬ Q v) (fun v w hv hvw hq => hv (hQ w v hq (a.sy v w hvw))) hs).1 u hu
        exact absurd hqu this
end

/-- How many parts have an odd number of nodes. -/
def oddN (cs : List (List Nat)) : Nat := (cs.map fun c => c.length % 2).sum
theorem oddN_app (cs : List (List Nat)) (c : List Nat) : oddN (cs ++ [c]) = oddN cs + c.length % 2 := by simp [oddN]
theorem oddN_le (cs : List (List Nat)) : oddN cs ≤ cs.length := by
  induction cs with
  | nil => simp [oddN]
  | cons c cs ih =>
    have : oddN (c :: cs) = c.length % 2 + oddN cs := by simp [oddN]
    rw [this, List.length_cons]
    omega

end Odd

/- The count: nodes, matched edges, odd parts. In plain Lean. -/
namespace Blo
open Odd

/-- A list that is paired off has even length. -/
theorem even_inv (f : Nat → Nat) : ∀ (N : Nat) (l : List Nat), l.length ≤ N → l.Nodup → (∀ x, x ∈ l → f x ∈ l ∧ f x ≠ x ∧ f (f x) = x) → l.length % 2 = 0 := by
  intro N
  induction N with
  | zero => intro l h _ _; rw [Nat.le_zero.1 h]
  | succ N ih =>
    intro l hN nd h
    cases l with
    | nil => rfl
    | cons x t =>
      obtain ⟨h1, h2, h3⟩ := h x (by simp)
      have nd' := List.nodup_cons.1 nd
      have h4 : f x ∈ t := (List.mem_cons.1 h1).resolve_left h2
      have hl := List.length_erase_of_mem h4
      have hpos : 0 < t.length := List.length_pos_of_mem h4
      have := ih (t.erase (f x)) (by simp at hN; omega) (nd'.2.erase _) fun y hy => by
        obtain ⟨y1, y2⟩ := (nd'.2.mem_erase_iff).1 hy
        obtain ⟨k1, k2, k3⟩ := h y (by simp [y2])
        refine ⟨(nd'.2.mem_erase_iff).2 ⟨fun e => ?_, ?_⟩, k2, k3⟩
        · have : y = x := by rw [← k3, e, h3]
          exact nd'.1 (this ▸ y2)
        · refine (List.mem_cons.1 k1).resolve_left fun e => ?_
          exact y1 (by rw [← k3, e])
      simp only [List.length_cons]
      omega

theorem split_len (p : Nat → Bool) (l : List Nat) : l.length = (l.filter p).length + (l.filter fun x => !p x).length := by
  induction l with
  | nil => rfl
  | cons x l ih =>
    simp only [List.filter_cons]
    cases p x <;> simp <;> omega

theorem same_len {l l' : List Nat} (f f' : Nat → Nat) (nd : l.Nodup) (nd' : l'.Nodup) (h1 : ∀ x, x ∈ l → f x ∈ l' ∧ f' (f x) = x) (h2 : ∀ x, x ∈ l' → f' x ∈ l ∧ f (f' x) = x) : l.length = l'.length :=
  Nat.le_antisymm (Pair.inj_len f l l' nd (fun x hx => (h1 x hx).1) fun x y hx hy e => by rw [← (h1 x hx).2, e, (h1 y hy).2])
    (Pair.inj_len f' l' l nd' (fun x hx => (h2 x hx).1) fun x y hx hy e => by rw [← (h2 x hx).2, e, (h2 y hy).2])

/-- What Solve leaves: the matching, the nodes that were reached, the nodes that prove it. -/
structure Done (g : Gr) (by_ : Nat → Option Nat) (re : Nat → Bool) (cl : List Nat) : Prop where
  mat : Mat g by_
  fails : ∀ r, r < g.n → by_ r = none → ∃ ev, Fails g by_ r ev
  rch : ∀ u, u < g.n → (re u = true ↔ ∃ r ev, r < g.n ∧ by_ r = none ∧ Fails g by_ r ev ∧ ev u = true)
  st : ∀ v, v ∈ cl ↔ v < g.n ∧ re v = false ∧ ∃ i w, g.E i v w ∧ re w = true

/-- Neighbours outside of 'cl'. -/
def Nbr (g : Gr) (cl : List Nat) (v w : Nat) : Prop := v ∉ cl ∧ w ∉ cl ∧ ∃ i, i < g.m ∧ ((g.U i = v ∧ g.V i = w) ∨ (g.V i = v ∧ g.U i = w))

theorem Nbr.cases {g : Gr} {cl : List Nat} {v w : Nat} (h : Nbr g cl v w) : v = w ∨ ∃ i, g.E i v w := by
  obtain ⟨_, _, i, hi, h⟩ := h
  by_cases e : v = w
  · exact .inl e
  · exact .inr ⟨i, hi, e, h.imp id fun h => ⟨h.2, h.1⟩⟩
theorem Nbr.edge {g : Gr} {cl : List Nat} {v w i : Nat} (e : g.E i v w) (h1 : v ∉ cl) (h2 : w ∉ cl) : Nbr g cl v w := ⟨h1, h2, i, e.lt, e.or.imp id fun h => ⟨h.2, h.1⟩⟩

section
variable {g : Gr} {by_ : Nat → Option Nat} {re : Nat → Bool} {cl : List Nat} (F : Done g by_ re cl)
include F

theorem Done.free {v : Nat} (hv : v < g.n) (h : by_ v = none) : re v = true := by
  obtain ⟨ev, hf⟩ := F.fails v hv h
  refine (F.rch v hv).2 ⟨v, ev, hv, h, hf, ?_⟩
  obtain ⟨_, _, _, s, _⟩ := hf
  exact s.re

theorem Done.out {i v w : Nat} (e : g.E i v w) (h : re v = true) (hw : w ∉ cl) : re w = true := by
  cases hr : re w with
  | true => rfl
  | false => exact absurd ((F.st w).2 ⟨e.lty, hr, i, v, e.symm, h⟩) hw

/-- A reached node lies in a failing search. -/
theorem Done.hung {v : Nat} (hv : v < g.n) (h : re v = true) : ∃ r base E O, Hung g by_ r base E O ∧ E v ∧ (∀ x, E x → x < g.n ∧ re x = true) ∧ ∀ x, O x → x < g.n ∧ re x = false := by
  obtain ⟨r, ev, hr, hb, hf, hev⟩ := (F.rch v hv).1 h
  obtain ⟨base, via, P, s, H⟩ := id hf
  refine ⟨r, base, _, _, s.hung H, ⟨hv, hev⟩, fun x hx => ⟨hx.1, (F.rch x hx.1).2 ⟨r, ev, hr, hb, hf, hx.2⟩⟩, fun x hx => ⟨hx.1, ?_⟩⟩
  cases hr' : re x with
  | false => rfl
  | true =>
    obtain ⟨r', ev', _, _, ⟨_, _, _, s', _⟩, hev'⟩ := (F.rch x hx.1).1 hr'
    exact absurd hx ((s.hung H).block s' hx.1 hev').1

theorem Done.cmate {v : Nat} (h : v ∈ cl) : by_ v ≠ none ∧ re (mate g by_ v) = true := by
  obtain ⟨hv, hr, i, w, e, hw⟩ := (F.st v).1 h
  obtain ⟨r, base, E, O, H, hE, hR, hO⟩ := F.hung e.lty hw
  rcases H.edge _ _ _ e.symm hE with h1 | ⟨h1, _⟩
  · obtain ⟨_, h2, h3, _⟩ := H.om v h1
    exact ⟨h2, (hR _ h3).2⟩
  · rw [(hR v h1).2] at hr; cases hr

theorem Done.low {v : Nat} (hv : v < g.n) (hr : re v = false) (hc : v ∉ cl) : by_ v ≠ none ∧ re (mate g by_ v) = false ∧ mate g by_ v ∉ cl := by
  have hb : by_ v ≠ none := fun h => by rw [F.free hv h] at hr; cases hr
  obtain ⟨i, hi⟩ := Option.ne_none_iff_exists'.1 hb
  have e := F.mat.edge hv hi
  refine ⟨hb, ?_, fun h => ?_⟩
  · cases h : re (mate g by_ v) with
    | false => rfl
    | true => rw [F.out e.symm h hc] at hr; cases hr
  · have := (F.cmate h).2
    rw [F.mat.inv hv, hr] at this
    cases this

/-- Exits of the reached nodes. -/
def ex (g : Gr) (by_ : Nat → Option Nat) (re : Nat → Bool) (cl : List Nat) (v : Nat) : Bool := re v && ((by_ v).isNone || decide (mate g by_ v ∈ cl))

theorem Done.inn {v : Nat} (hv : v < g.n) (hc : v ∉ cl) (hx : ex g by_ re cl v = false) : by_ v ≠ none ∧ mate g by_ v ∉ cl ∧ ex g by_ re cl (mate g by_ v) = false := by
  cases hr : re v with
  | false =>
    obtain ⟨h1, h2, h3⟩ := F.low hv hr hc
    exact ⟨h1, h3, by simp [ex, h2]⟩
  | true =>
    simp [ex, hr] at hx
    have hb : by_ v ≠ none := Option.isSome_iff_ne_none.1 hx.1
    refine ⟨hb, hx.2, ?_⟩
    simp [ex, F.mat.by_mate hv, F.mat.inv hv, hx.1, hc]

theorem Done.one {c : List Nat} (ok : ∀ v, v ∈ c → v < g.n ∧ v ∉ cl) (co : ∀ Q : Nat → Prop, (∀ v w, Q v → Nbr g cl v w → Q w) → ∀ u, u ∈ c → Q u → ∀ w, w ∈ c → Q w) {u w : Nat} (hu : u ∈ c) (hw : w ∈ c) (xu : ex g by_ re cl u = true) (xw : ex g by_ re cl w = true) : u = w := by
  have r1 : re u = true := by simp [ex] at xu; exact xu.1
  obtain ⟨r, base, E, O, H, hE, hR, hO⟩ := F.hung (ok u hu).1 r1
  have key := co (fun z => E z ∧ base z = base u) (fun v z hq hn => by
    rcases hn.cases with rfl | ⟨i, e⟩
    · exact hq
    · rcases H.edge _ _ _ e hq.1 with h1 | ⟨h1, h2⟩
      · exact absurd ((F.st z).2 ⟨e.lty, (hO z h1).2, i, v, e.symm, (hR v hq.1).2⟩) hn.2.1
      · exact ⟨h1, h2.trans hq.2⟩) u hu ⟨hE, rfl⟩
  have hb : ∀ z, z ∈ c → ex g by_ re cl z = true → base z = z := fun z hz xz => by
    refine Classical.byContradiction fun hne => ?_
    obtain ⟨m1, m2, _⟩ := H.mt z (key z hz).1 hne
    simp [ex] at xz
    have := ((F.st _).1 (xz.2.resolve_left m1)).2.1
    rw [(hR _ m2).2] at this
    cases this
  rw [← hb u hu xu, ← hb w hw xw, (key w hw).2]

theorem Done.par {c : List Nat} (nd : c.Nodup) (ok : ∀ v, v ∈ c → v < g.n ∧ v ∉ cl) (cls : ∀ v w, v ∈ c → Nbr g cl v w → w ∈ c) (co : ∀ Q : Nat → Prop, (∀ v w, Q v → Nbr g cl v w → Q w) → ∀ u, u ∈ c → Q u → ∀ w, w ∈ c → Q w) :
    c.length % 2 = (c.filter (ex g by_ re cl)).length := by
  have h1 := split_len (ex g by_ re cl) c
  have h2 : (c.filter fun x => !ex g by_ re cl x).length % 2 = 0 := by
    refine even_inv (mate g by_) _ _ (Nat.le_refl _) (nd.filter _) fun x hx => ?_
    rw [List.mem_filter] at hx
    obtain ⟨hxc, hx⟩ := hx
    obtain ⟨hn, hc⟩ := ok x hxc
    obtain ⟨m1, m2, m3⟩ := F.inn hn hc (by simpa using hx)
    obtain ⟨i, hi⟩ := Option.ne_none_iff_exists'.1 m1
    refine ⟨List.mem_filter.2 ⟨cls x _ hxc (Nbr.edge (F.mat.edge hn hi) hc m2), by simp [m3]⟩, F.mat.ne hn m1, F.mat.inv hn⟩
  have h3 : (c.filter (ex g by_ re cl)).length ≤ 1 := by
    refine Pair.inj_len (fun _ => 0) _ [0] (nd.filter _) (by simp) fun x y hx hy _ => ?_
    rw [List.mem_filter] at hx hy
    exact F.one ok co hx.1 hy.1 hx.2 hy.2
  omega

theorem Done.sum {wo seen : Nat → Bool} (hwo : ∀ v, wo v = decide (v ∈ cl)) {cs : List (List Nat)} (ps : Parts g.n wo (Nbr g cl) seen cs) : oddN cs = (cs.flatten.filter (ex g by_ re cl)).length := by
  have key : ∀ ds : List (List Nat), (∀ c, c ∈ ds → c ∈ cs) → ds.flatten.Nodup → oddN ds = (ds.flatten.filter (ex g by_ re cl)).length := by
    intro ds
    induction ds with
    | nil => intro _ _; rfl
    | cons c ds ih =>
      intro hm nd
      rw [List.flatten_cons, List.nodup_append] at nd
      have i1 := ih (fun c hc => hm c (by simp [hc])) nd.2.1
      have hc := hm c (by simp)
      have h1 := F.par nd.1 (fun v hv => ⟨(ps.ok c hc v hv).1, by have := (ps.ok c hc v hv).2; rw [hwo] at this; simpa using this⟩) (ps.cl c hc) (ps.co c hc)
      have : oddN (c :: ds) = c.length % 2 + oddN ds := by simp [oddN]
      rw [this, i1, h1, List.flatten_cons, List.filter_append, List.length_append]
  exact key cs (fun _ h => h) ps.nd

theorem Done.count {wo seen : Nat → Bool} (hwo : ∀ v, wo v = decide (v ∈ cl)) (nd : cl.Nodup) {cs : List (List Nat)} (ps : Parts g.n wo (Nbr g cl) seen cs) (all : ∀ v, v < g.n → seen v = true) :
    oddN cs = ((List.range g.n).filter fun v => (by_ v).isNone).length + cl.length := by
  rw [F.sum hwo ps]
  have nr := List.nodup_range (n := g.n)
  have e1 : (cs.flatten.filter (ex g by_ re cl)).length = ((List.range g.n).filter (ex g by_ re cl)).length := by
    refine same_len id id (ps.nd.filter _) (nr.filter _) (fun x hx => ⟨?_, rfl⟩) fun x hx => ⟨?_, rfl⟩
    · rw [List.mem_filter] at hx
      obtain ⟨c, hc, hxc⟩ := List.mem_flatten.1 hx.1
      exact List.mem_filter.2 ⟨List.mem_range.2 (ps.ok c hc x hxc).1, hx.2⟩
    · rw [List.mem_filter] at hx
      have hn := List.mem_range.1 hx.1
      refine List.mem_filter.2 ⟨?_, hx.2⟩
      rcases (ps.mem x hn).1 (all x hn) with h | ⟨c, hc, h⟩
      · rw [hwo] at h
        have h1 := ((F.st x).1 (by simpa using h)).2.1
        have h2 := hx.2
        simp [ex, h1] at h2
      · exact List.mem_flatten.2 ⟨c, hc, h⟩
  rw [e1, split_len (fun v => (by_ v).isNone)]
  congr 1
  · refine same_len id id ((nr.filter _).filter _) (nr.filter _) (fun x hx => ⟨?_, rfl⟩) fun x hx => ⟨?_, rfl⟩
    · simp only [List.mem_filter] at hx
      exact List.mem_filter.2 ⟨hx.1.1, hx.2⟩
    · simp only [List.mem_filter] at hx
      have hb : by_ x = none := by simpa using hx.2
      refine List.mem_filter.2 ⟨List.mem_filter.2 ⟨hx.1, ?_⟩, hx.2⟩
      simp [ex, hb, F.free (List.mem_range.1 hx.1) hb]
  · refine same_len (mate g by_) (mate g by_) ((nr.filter _).filter _) nd (fun x hx => ?_) fun x hx => ?_
    · simp only [List.mem_filter, List.mem_range] at hx
      obtain ⟨⟨hn, hx1⟩, hx2⟩ := hx
      have hb : by_ x ≠ none := Option.isSome_iff_ne_none.1 (by simpa using hx2)
      simp [ex, hb] at hx1
      exact ⟨hx1.2, F.mat.inv hn⟩
    · obtain ⟨hb, hr⟩ := F.cmate hx
      have hn := ((F.st x).1 hx).1
      refine ⟨?_, F.mat.inv hn⟩
      simp only [List.mem_filter, List.mem_range]
      refine ⟨⟨F.mat.lt hn, ?_⟩, ?_⟩
      · simp [ex, hr, F.mat.inv hn, hx]
      · simp [F.mat.by_mate hn, Option.isSome_iff_ne_none.2 hb]
end

end Blo

/- Parts there are; no matching has more edges than the parts let it. In plain Lean. -/
namespace Odd
open Go.HW (upd upd_same upd_ne)

open Classical in
theorem Dfs.ends {n : Nat} {wo : Nat → Bool} {adj : Nat → Nat → Prop} {seen0 : Nat → Bool} {s : Nat} (a : Adj n wo adj) (hwo : ∀ v, v < n → wo v = true → seen0 v = true) : ∀ (M N : Nat) (seen : Nat → Bool) (c stack : List Nat), Pair.unseen n seen ≤ M → stack.length ≤ N → Dfs n adj seen0 s seen c stack → ∃ seen' c', Dfs n adj seen0 s seen' c' [] := by
  intro M
  induction M with
  | zero =>
    intro N
    induction N with
    | zero => intro seen c stack _ h d; rw [List.eq_nil_of_length_eq_zero (Nat.le_zero.1 h)] at d; exact ⟨_, _, d⟩
    | succ N ih =>
      intro seen c stack hM hN d
      rcases List.eq_nil_or_concat stack with rfl | ⟨l, v, rfl⟩
      · exact ⟨_, _, d⟩
      · simp only [List.concat_eq_append] at d hN
        cases h : seen v with
        | true => exact ih seen c l hM (by simp at hN; omega) (d.skip h)
        | false =>
          have := Pair.unseen_lt n seen (fun _ => true) (fun _ _ _ => rfl) (d.st v (by simp)) h rfl
          omega
  | succ M ihM =>
    intro N
    induction N with
    | zero => intro seen c stack _ h d; rw [List.eq_nil_of_length_eq_zero (Nat.le_zero.1 h)] at d; exact ⟨_, _, d⟩
    | succ N ih =>
      intro seen c stack hM hN d
      rcases List.eq_nil_or_concat stack with rfl | ⟨l, v, rfl⟩
      · exact ⟨_, _, d⟩
      · simp only [List.concat_eq_append] at d hN
        cases h : seen v with
        | true => exact ih seen c l hM (by simp at hN; omega) (d.skip h)
        | false =>
          have hv := d.st v (by simp)
          have hw : wo v = false := by
            cases e : wo v with
            | false => rfl
            | true => rw [(d.sn v hv).2 (.inl (hwo v hv e))] at h; cases h
          have hlt := Pair.unseen_lt n seen (upd seen v true) (fun i _ hi => by
            by_cases e : i = v
            · rw [e, upd_same]
            · rw [upd_ne _ _ e]; exact hi) hv h (upd_same _ _ _)
          exact ihM _ _ _ _ (by omega) (Nat.le_refl _) (d.take (wo := wo) (nb := (List.range n).filter fun w => decide (adj v w)) h (fun w hw => by simp at hw; exact hw.1) (fun w _ hw => by simp at hw; exact hw.2) hw
            fun w hw => by simp; exact ⟨(a.lt w v (a.sy v w hw)).1, hw⟩)

theorem Parts.exist {n : Nat} {wo : Nat → Bool} {adj : Nat → Nat → Prop} (a : Adj n wo adj) : ∃ seen cs, Parts n wo adj seen cs ∧ ∀ v, v < n → seen v = true := by
  have key : ∀ k, k ≤ n → ∃ seen cs, Parts n wo adj seen cs ∧ ∀ v, v < k → seen v = true := by
    intro k
    induction k with
    | zero => intro _; exact ⟨_, _, Parts.start wo adj, fun v hv => by omega⟩
    | succ k ih =>
      intro hk
      obtain ⟨seen, cs, ps, hs⟩ := ih (by omega)
      obtain ⟨seen', c, d⟩ := Dfs.ends (s := k) a (fun v hv h => (ps.mem v hv).2 (.inl h)) _ _ seen [] [k] (Nat.le_refl _) (Nat.le_refl _) (Dfs.start (by omega))
      obtain ⟨p2, h2⟩ := ps.part a d
      refine ⟨seen', _, p2, fun v hv => ?_⟩
      by_cases e : v = k
      · rw [e]; exact h2
      · exact (d.sn v (by omega)).2 (.inl (hs v (by omega)))
  exact key n (Nat.le_refl _)

end Odd

namespace Blo
open Odd

theorem adjNbr (g : Gr) (cl : List Nat) : Adj g.n (fun v => decide (v ∈ cl)) (Nbr g cl) := by
  refine ⟨fun v w ⟨h1, h2, i, hi, h⟩ => ⟨?_, by simpa using h1⟩, fun v w ⟨h1, h2, i, hi, h⟩ => ⟨h2, h1, i, hi, ?_⟩⟩
  · have := g.hU i hi
    have := g.hV i hi
    omega
  · rcases h with ⟨h, h'⟩ | ⟨h, h'⟩
    · exact .inr ⟨h', h⟩
    · exact .inl ⟨h', h⟩

/-- No matching has more edges than the parts let it. -/
theorem weak {g : Gr} {by_ : Nat → Option Nat} (M : Mat g by_) {cl : List Nat} {wo seen : Nat → Bool} (hwo : ∀ v, wo v = decide (v ∈ cl)) {cs : List (List Nat)} (ps : Parts g.n wo (Nbr g cl) seen cs) :
    oddN cs ≤ ((List.range g.n).filter fun v => (by_ v).isNone).length + cl.length := by
  let x : Nat → Bool := fun v => (by_ v).isNone || decide (mate g by_ v ∈ cl)
  have par : ∀ c, c ∈ cs → c.Nodup → c.length % 2 ≤ (c.filter x).length := by
    intro c hc nd
    have h1 := split_len x c
    have h2 : (c.filter fun v => !x v).length % 2 = 0 := by
      refine even_inv (mate g by_) _ _ (Nat.le_refl _) (nd.filter _) fun v hv => ?_
      rw [List.mem_filter] at hv
      obtain ⟨hvc, hv⟩ := hv
      simp [x] at hv
      obtain ⟨hn, hw⟩ := ps.ok c hc v hvc
      rw [hwo] at hw
      have hb := Option.isSome_iff_ne_none.1 hv.1
      obtain ⟨i, hi⟩ := Option.ne_none_iff_exists'.1 hb
      refine ⟨List.mem_filter.2 ⟨ps.cl c hc v _ hvc (Nbr.edge (M.edge hn hi) (by simpa using hw) hv.2), ?_⟩, M.ne hn hb, M.inv hn⟩
      simp [x, M.by_mate hn, M.inv hn, hv.1]
      simpa using hw
    omega
  have key : ∀ ds : List (List Nat), (∀ c, c ∈ ds → c ∈ cs) → ds.flatten.Nodup → oddN ds ≤ (ds.flatten.filter x).length := by
    intro ds
    induction ds with
    | nil => intro _ _; simp [oddN]
    | cons c ds ih =>
      intro hm nd
      rw [List.flatten_cons, List.nodup_append] at nd
      have i1 := ih (fun c hc => hm c (by simp [hc])) nd.2.1
      have h1 := par c (hm c (by simp)) nd.1
      have : oddN (c :: ds) = c.length % 2 + oddN ds := by simp [oddN]
      rw [this, List.flatten_cons, List.filter_append, List.length_append]
      omega
  refine Nat.le_trans (key cs (fun _ h => h) ps.nd) ?_
  rw [split_len fun v => (by_ v).isNone]
  have mem : ∀ v, v ∈ cs.flatten → v < g.n := fun v hv => by
    obtain ⟨c, hc, h⟩ := List.mem_flatten.1 hv
    exact (ps.ok c hc v h).1
  refine Nat.add_le_add ?_ ?_
  · refine Pair.inj_len id _ _ ((ps.nd.filter _).filter _) (fun v hv => ?_) fun _ _ _ _ h => h
    simp only [List.mem_filter] at hv ⊢
    exact ⟨List.mem_range.2 (mem v hv.1.1), hv.2⟩
  · refine Pair.inj_len (mate g by_) _ _ ((ps.nd.filter _).filter _) (fun v hv => ?_) fun v w hv hw h => ?_
    · simp only [List.mem_filter] at hv
      have h1 := hv.1.2
      have h2 := hv.2
      simp [x] at h1 h2
      rcases h1 with h | h
      · rw [h] at h2; simp at h2
      · exact h
    · simp only [List.mem_filter] at hv hw
      exact M.inj (mem v hv.1.1) (mem w hw.1.1) h

end Blo
