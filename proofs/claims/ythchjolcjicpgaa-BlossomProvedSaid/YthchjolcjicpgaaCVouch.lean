/- vouch: contracts of its small functions. -/
import Derived.Test.YthchjolcjicpgaaCLook2
import Derived.Test.YthchjolcjicpgaaFVouch
import Derived.Test.YthchjolcjicpgaaCCheck
import Derived.Test.YthchjolcjicpgaaMPair3
namespace Go.Proofs.Ythchjolcjicpgaa
open Go.HW

theorem need_c (h : Heap) (b : Bool) (c : Int) : HCalls Try.prog 51 #[.bool b, .int .i64 c] h fun e h' => h' = h ∧ ((b = true ∧ e = .returned (.tuple #[])) ∨ (b = false ∧ e = .panicked (refusal c))) := by
  apply H51
  unfold F51
  cases b <;> simp [refusal, ifV_true, ifV_false]
theorem need_t (h : Heap) (c : Int) {K : Value → Heap → Prop} {E : List PanicEntry → Heap → Prop} (k : K (.tuple #[]) h) : CALL Try.prog 51 #[.bool true, .int .i64 c] h K E :=
  CALL_mk en51 (need_c h true c) fun e h' ⟨h1, h2⟩ => by
    rcases h2 with ⟨_, rfl⟩ | ⟨h2, _⟩
    · subst h1; exact k
    · cases h2

theorem loop_c (h : Heap) (e : RE) : HCalls Try.prog 52 #[.agg #[.int .i64 e.u, .int .i64 e.v, .int .i64 e.cap, .int .i64 e.cost]] h fun en h' => en = .returned (.bool (decide (e.u = e.v))) ∧ Le h h' := by
  apply H52
  unfold F52
  intro r hr
  have l := Heap.le_new hr #[.int .i64 e.u, .int .i64 e.v, .int .i64 e.cap, .int .i64 e.cost] 40
  simp [l]

theorem right_ok {h : Heap} {n : Int} {x : Value} {es : List RE} (hx : ES h x es) (f : Fine n es) : HCalls Try.prog 47 #[.agg #[.int .i64 n, x]] h fun e h' => e = .returned (.tuple #[]) ∧ Le h h' := by
  apply H47
  unfold F47
  intro r hr
  have l := Heap.le_new hr (Value.cells (.agg #[.int .i64 n, x])) 25
  have c0 : (h.new r (Value.cells (.agg #[.int .i64 n, x])) 25).cell r 0 = some (.int .i64 n) := by simp
  have c1 : (h.new r (Value.cells (.agg #[.int .i64 n, x])) 25).cell r 1 = some x := by simp
  generalize h.new r (Value.cells (.agg #[.int .i64 n, x])) 25 = h1 at l c0 c1
  simp [c0, c1]
  refine CALL_mk en44 (check_c (hx.le l)) ?_
  rintro e h2 ⟨c, a, rfl, l2, hc⟩
  have hc0 := hc.fine.2 f
  subst hc0
  simp
  intro r2 hr2
  simp [setL_cons]
  have l3 : Le h2 (((h2.new r2 #[.int .i64 0, .int .i64 0] 31).set r2 0 (.int .i64 0)).set r2 1 (.int .i64 a)) := ((Heap.le_new hr2 _ _).set_fresh hr2 _ _).set_fresh hr2 _ _
  exact need_t _ _ ((l.trans l2).trans l3)

/-- Numbers that rise, from 0 to n-1. -/
def Rise (n : Nat) (l : List Nat) : Prop := l.Pairwise (· < ·) ∧ ∀ x, x ∈ l → x < n

theorem Rise.len {n : Nat} {l : List Nat} (h : Rise n l) : l.length ≤ n := by
  have := Pair.nodup_le n l (h.1.imp fun h => Nat.ne_of_lt h) h.2
  exact this

theorem rising_ok {h : Heap} {n : Nat} {x : Value} {l : List Nat} (hx : IL h x l) (hr : Rise n l) (hn : n ≤ 1000000) : HCalls Try.prog 89 #[x, .int .i64 n] h fun e h' => e = .returned (.tuple #[]) ∧ h' = h := by
  apply H89
  unfold F89
  have hlen := hr.len
  obtain ⟨A, c, rfl, hA⟩ := hx
  simp
  obtain ⟨I, hI⟩ : ∃ I : Nat → List Value → Heap → Prop, ∀ m xs h1, I m xs h1 ↔ ∃ (j : Nat) (last : Int), xs = [.int .i64 j, .int .i64 last] ∧ j ≤ l.length ∧ m = l.length - j ∧ h1 = h ∧ (∀ y, l[j]? = some y → last < (y : Int)) := ⟨_, fun _ _ _ => Iff.rfl⟩
  refine ⟨I, ⟨_, (hI _ _ _).2 ⟨0, -1, rfl, by omega, rfl, rfl, fun y _ => by omega⟩⟩, ?_⟩
  intro m X h1 hI1
  obtain ⟨j, last, hX, hj, rfl, rfl, hlast⟩ := (hI _ _ _).1 hI1
  simp only [List.cons.injEq, and_true] at hX
  obtain ⟨hX1, hX2⟩ := hX
  simp only [hX1, hX2]
  have w1 : IntKind.i64.wrap ((j : Int) + 1) = ((j + 1 : Nat) : Int) := by rw [wrap_in (by omega) (by omega)]; rfl
  simp
  intro hlt
  obtain ⟨b, o, rfl, hcell⟩ := hA j _ (List.getElem?_eq_getElem hlt)
  have hl := hlast _ (List.getElem?_eq_getElem hlt)
  have hn' : ((l[j] : Nat) : Int) < (n : Int) := by have := hr.2 _ (List.getElem_mem hlt); omega
  simp [hlt, hcell, hl, hn']
  refine need_t _ _ ⟨_, ?_, (hI _ _ _).2 ⟨j + 1, _, by rw [w1], by omega, rfl, rfl, fun y hy => ?_⟩⟩
  · omega
  · have hlt2 := (List.getElem?_eq_some_iff.1 hy).1
    have := List.pairwise_iff_getElem.1 hr.1 j (j + 1) hlt hlt2 (by omega)
    rw [(List.getElem?_eq_some_iff.1 hy).2] at this
    omega

theorem marked_ok {h : Heap} {n : Nat} {x : Value} {l : List Nat} (hx : IL h x l) (hr : Rise n l) (hn : n ≤ 1000000) : HCalls Try.prog 50 #[x, .int .i64 n] h fun e h' => ∃ b, e = .returned (.slice (some ⟨b, 0, none⟩) n n) ∧ Le h h' ∧ h.fresh b ∧ BA h' b n fun v => decide (v ∈ l) := by
  apply H50
  unfold F50
  have hlen := hr.len
  refine CALL_mk en89 (rising_ok hx hr hn) ?_
  rintro e h1 ⟨rfl, rfl⟩
  simp [ms_74 n (by omega) (by omega)]
  intro b hb
  have l1 := Heap.le_new hb (zrow #[.bool false] n) 4
  have b1 := GA.fresh Value.bool 4 h1 b n false
  generalize h1.new b (zrow #[.bool false] n) 4 = h2 at l1 b1
  obtain ⟨A, c, rfl, hA⟩ := hx
  simp
  obtain ⟨I, hI⟩ : ∃ I : Nat → List Value → Heap → Prop, ∀ m xs h3, I m xs h3 ↔ ∃ j : Nat, xs = [.int .i64 j] ∧ j ≤ l.length ∧ m = l.length - j ∧ Le h1 h3 ∧ BA h3 b n fun v => decide (v ∈ l.take j) := ⟨_, fun _ _ _ => Iff.rfl⟩
  refine ⟨I, ⟨_, (hI _ _ _).2 ⟨0, rfl, by omega, rfl, l1, b1.ext fun i _ => by simp⟩⟩, ?_⟩
  clear l1 b1
  intro m X h3 hI1
  obtain ⟨j, hX, hj, rfl, l3, b3⟩ := (hI _ _ _).1 hI1
  simp only [List.cons.injEq, and_true] at hX
  simp only [hX]
  have w1 : IntKind.i64.wrap ((j : Int) + 1) = ((j + 1 : Nat) : Int) := by rw [wrap_in (by omega) (by omega)]; rfl
  simp
  refine ⟨fun hlt => ?_, fun hge => ?_⟩
  · obtain ⟨b', o, rfl, hcell⟩ := hA j _ (List.getElem?_eq_getElem hlt)
    have hm := hr.2 _ (List.getElem_mem hlt)
    have hn' : ((l[j] : Nat) : Int) < (n : Int) := by omega
    simp [hlt, l3.cell _ _ _ hcell, hn', b3.can hm]
    refine ⟨_, ?_, (hI _ _ _).2 ⟨j + 1, by rw [w1], by omega, rfl, l3.set_fresh hb _ _, (b3.set true).ext fun i hi => ?_⟩⟩
    · omega
    · have : l.take (j + 1) = l.take j ++ [l[j]] := by rw [List.take_add_one, List.getElem?_eq_getElem hlt]; rfl
      simp only [upd, this, List.mem_append, List.mem_singleton]
      by_cases e : i = l[j] <;> simp [e]
  · have : j = l.length := by omega
    subst this
    rw [List.take_length] at b3
    exact ⟨l3, hb, b3⟩

/-- How often an edge ends at a node; how often edges of a list do. -/
def endsAt (e : RE) (v : Nat) : Nat := (if e.u = (v : Int) then 1 else 0) + (if e.v = (v : Int) then 1 else 0)
def deg (es : List RE) (l : List Nat) (v : Nat) : Nat := (l.map fun i => match es[i]? with | some e => endsAt e v | none => 0).sum

theorem deg_app (es : List RE) (l l' : List Nat) (v : Nat) : deg es (l ++ l') v = deg es l v + deg es l' v := by simp [deg]
theorem deg_one {es : List RE} {i : Nat} {e : RE} (h : es[i]? = some e) (v : Nat) : deg es [i] v = endsAt e v := by simp [deg, h]
theorem deg_le (es : List RE) (v : Nat) : ∀ l, deg es l v ≤ 2 * l.length := by
  intro l
  induction l with
  | nil => simp [deg]
  | cons a l ih =>
    have : deg es (a :: l) v = deg es [a] v + deg es l v := deg_app es [a] l v
    have h2 : deg es [a] v ≤ 2 := by
      simp only [deg, List.map_cons, List.map_nil, List.sum_cons, List.sum_nil]
      split
      · unfold endsAt
        have h1 : ∀ p : Prop, [Decidable p] → (if p then 1 else 0) ≤ 1 := fun p _ => by split <;> omega
        next e _ =>
        have a := h1 (e.u = (v : Int))
        have b := h1 (e.v = (v : Int))
        exact Nat.add_le_add a b
      · omega
    simp only [List.length_cons]
    omega

/-- The edges are a matching, with so many at a node at most. -/
structure Mtc (n : Nat) (es : List RE) (l : List Nat) (mo : Nat → Int) : Prop where
  rise : Rise es.length l
  noloop : ∀ i e, i ∈ l → es[i]? = some e → e.u ≠ e.v
  deg : ∀ v, v < n → (deg es l v : Int) ≤ mo v

theorem bld138 (a b : Int) : buildV T 138 #[(0, .int .i64 a), (1, .int .i64 b)] = some (.agg #[.int .i64 a, .int .i64 b]) := by kernel_rfl
theorem ix138_0 (a b : Value) : indexV T 138 (.agg #[a, b]) (.int .i64 0) = some a := by kernel_rfl
theorem ix138_1 (a b : Value) : indexV T 138 (.agg #[a, b]) (.int .i64 1) = some b := by kernel_rfl

theorem matched_ok {h : Heap} {n : Nat} {gx mx fv : Value} {es : List RE} {l : List Nat} {mo : Nat → Int} (hg : ES h gx es) (hx : IL h mx l) (f : Fine n es) (M : Mtc n es l mo)
    (hmost : ∀ (v : Nat) (h1 : Heap) (K : Value → Heap → Prop) (E : List PanicEntry → Heap → Prop), v < n → Le h h1 → (∀ h2, Le h1 h2 → K (.int .i64 (mo v)) h2) → CL Try.prog fv #[.int .i64 v] K E h1) :
    HCalls Try.prog 48 #[.agg #[.int .i64 n, gx], mx, fv] h fun e h' => e = .returned (.tuple #[]) ∧ Le h h' := by
  apply H48
  unfold F48
  intro r hr
  have n1 := f.n1
  have m1 := f.m
  have hll := M.rise.len
  have l1 := Heap.le_new hr (Value.cells (.agg #[.int .i64 n, gx])) 25
  have c0 : (h.new r (Value.cells (.agg #[.int .i64 n, gx])) 25).cell r 0 = some (.int .i64 n) := by simp
  have c1 : (h.new r (Value.cells (.agg #[.int .i64 n, gx])) 25).cell r 1 = some gx := by simp
  generalize h.new r (Value.cells (.agg #[.int .i64 n, gx])) 25 = S at l1 c0 c1
  obtain ⟨Ag, cg, rfl, hcap, hgc⟩ := hg.shape
  simp [c1]
  refine CALL_mk en89 (rising_ok (hx.le l1) M.rise (by omega)) ?_
  rintro e h1 ⟨rfl, rfl⟩
  simp [c0, ms_26 n (by omega) (by omega)]
  intro b hb
  have fb := hb
  have l2 := Heap.le_new hb (zrow #[.int .i64 0] n) 3
  have b2 := GA.fresh (Value.int .i64) 3 h1 b n 0
  generalize h1.new b (zrow #[.int .i64 0] n) 3 = h2 at l2 b2
  obtain ⟨A, c, rfl, hA⟩ := hx
  simp
  obtain ⟨I, hI⟩ : ∃ I : Nat → List Value → Heap → Prop, ∀ m xs h3, I m xs h3 ↔ ∃ j : Nat, xs = [.int .i64 j] ∧ j ≤ l.length ∧ m = l.length - j ∧ Le h1 h3 ∧ IA h3 b n fun v => (deg es (l.take j) v : Int) := ⟨_, fun _ _ _ => Iff.rfl⟩
  refine ⟨I, ⟨_, (hI _ _ _).2 ⟨0, rfl, by omega, rfl, l2, b2.ext fun i _ => by simp [deg]⟩⟩, ?_⟩
  clear l2 b2
  intro m X h3 hI1
  obtain ⟨j, hX, hj, rfl, l3, b3⟩ := (hI _ _ _).1 hI1
  simp only [List.cons.injEq, and_true] at hX
  simp only [hX]
  have w1 : IntKind.i64.wrap ((j : Int) + 1) = ((j + 1 : Nat) : Int) := by rw [wrap_in (by omega) (by omega)]; rfl
  simp
  refine ⟨fun hlt => ?_, fun hge => l1.trans l3⟩
  obtain ⟨b', o, rfl, hcell⟩ := hA j _ (List.getElem?_eq_getElem hlt)
  generalize hi : l[j] = i at hcell
  have hi' : l[j]? = some i := by rw [List.getElem?_eq_getElem hlt, hi]
  have him : i < es.length := M.rise.2 i (by rw [← hi]; exact List.getElem_mem hlt)
  have he := List.getElem?_eq_getElem him
  obtain ⟨b'', o', rfl, e0, e1, e2, e3⟩ := hgc i _ he
  generalize he' : es[i] = e at e0 e1 e2 e3 he
  have hnl := M.noloop i e (by rw [← hi]; exact List.getElem_mem hlt) he
  have hin := (f.ok i e he).1
  unfold RE.inn at hin
  obtain ⟨u, hu⟩ : ∃ u : Nat, e.u = u := ⟨e.u.toNat, by omega⟩
  obtain ⟨v, hv⟩ : ∃ v : Nat, e.v = v := ⟨e.v.toNat, by omega⟩
  have himI : (i : Int) < (es.length : Int) := by omega
  have L3 := l1.trans l3
  simp [hlt, L3.cell _ _ _ hcell, l3.cell _ _ _ c1, himI, L3.cell _ _ _ e0, L3.cell _ _ _ e1, L3.cell _ _ _ e2, L3.cell _ _ _ e3]
  intro r1 hr1
  have f1 := hr1.le l3
  have hbr : b ≠ r1 := hr1.nei b3.info
  have l4 := l3.new hr1 #[.int .i64 0, .int .i64 0, .int .i64 0, .int .i64 0] 40
  simp [setL_cons]
  obtain ⟨h4, hh4⟩ : ∃ h4, h4 = ((((h3.new r1 #[.int .i64 0, .int .i64 0, .int .i64 0, .int .i64 0] 40).set r1 0 (.int .i64 e.u)).set r1 1 (.int .i64 e.v)).set r1 2 (.int .i64 e.cap)).set r1 3 (.int .i64 e.cost) := ⟨_, rfl⟩
  have l5 : Le h1 h4 := by rw [hh4]; exact (((l4.set_fresh f1 _ _).set_fresh f1 _ _).set_fresh f1 _ _).set_fresh f1 _ _
  have b5 : IA h4 b n fun v => (deg es (l.take j) v : Int) := by rw [hh4]; exact ((((b3.new hr1 _ _).other hbr _).other hbr _).other hbr _).other hbr _
  have d0 : h4.cell r1 0 = some (.int .i64 e.u) := by rw [hh4]; simp
  have d1 : h4.cell r1 1 = some (.int .i64 e.v) := by rw [hh4]; simp
  rw [← hh4]
  clear hh4 l4
  refine CALL_mk en52 (loop_c h4 e) ?_
  rintro en h5 ⟨rfl, l6⟩
  simp [hnl]
  refine need_t _ _ ?_
  simp [l6.cell _ _ _ d0, l6.cell _ _ _ d1, bld138]
  have l7 := l5.trans l6
  have b7 := b5.le l6
  have dj : ∀ x, deg es (l.take (j + 1)) x = deg es (l.take j) x + endsAt e x := fun x => by
    rw [List.take_add_one, hi', ← deg_one he x, ← deg_app]; rfl
  have dle : ∀ x, x < n → (deg es (l.take (j + 1)) x : Int) ≤ mo x := fun x hx => by
    have h1 := M.deg x hx
    have h2 : deg es l x = deg es (l.take (j + 1)) x + deg es (l.drop (j + 1)) x := by rw [← deg_app, List.take_append_drop]
    omega
  have dsm : ∀ x, deg es (l.take j) x ≤ 8192 := fun x => by
    have := deg_le es x (l.take j)
    have := List.length_take_le j l
    omega
  obtain ⟨at_, hat⟩ : ∃ at_ : Nat → Nat → Int, ∀ k x, at_ k x = (deg es (l.take j) x : Int) + (if 1 ≤ k ∧ u = x then 1 else 0) + (if 2 ≤ k ∧ v = x then 1 else 0) := ⟨_, fun _ _ => rfl⟩
  obtain ⟨I2, hI2⟩ : ∃ I2 : Nat → List Value → Heap → Prop, ∀ m xs h3, I2 m xs h3 ↔ ∃ k : Nat, xs = [.int .i64 k] ∧ k ≤ 2 ∧ m = 2 - k ∧ Le h1 h3 ∧ IA h3 b n (at_ k) := ⟨_, fun _ _ _ => Iff.rfl⟩
  refine ⟨I2, ⟨_, (hI2 _ _ _).2 ⟨0, rfl, by omega, rfl, l7, b7.ext fun i _ => by rw [hat]; simp⟩⟩, ?_⟩
  clear l7 b7 l6 b5 l5 d0 d1 f1 hbr hr1 L3 l3 b3 hI1 hX
  intro m2 X2 h7 hI3
  obtain ⟨k, hX, hk, rfl, l7, b7⟩ := (hI2 _ _ _).1 hI3
  simp only [List.cons.injEq, and_true] at hX
  simp only [hX]
  have w2 : IntKind.i64.wrap ((k : Int) + 1) = ((k + 1 : Nat) : Int) := by rw [wrap_in (by omega) (by omega)]; rfl
  simp
  refine ⟨fun hlt2 => ?_, fun hge2 => ?_⟩
  · obtain ⟨x, hx1, hx2, hx3⟩ : ∃ x : Nat, x < n ∧ indexV T 138 (.agg #[.int .i64 e.u, .int .i64 e.v]) (.int .i64 k) = some (.int .i64 x) ∧ (∀ y, at_ (k + 1) y = upd (at_ k) x (at_ k x + 1) y) := by
      have : k = 0 ∨ k = 1 := by omega
      rcases this with rfl | rfl
      · refine ⟨u, by omega, by rw [hu]; exact ix138_0 _ _, fun y => ?_⟩
        simp only [upd, hat]
        by_cases e : y = u
        · subst e; simp
        · simp [e, Ne.symm e]
      · refine ⟨v, by omega, by rw [hv]; exact ix138_1 _ _, fun y => ?_⟩
        simp only [upd, hat]
        by_cases e : y = v
        · subst e; simp
        · simp [e, Ne.symm e]
    have hxn : (x : Int) < (n : Int) := by omega
    have hb1 : at_ k x + 1 ≤ mo x := by
      have h1 := dle x hx1
      have h2 := hx3 x
      rw [upd_same, hat] at h2
      rw [dj x] at h1
      unfold endsAt at h1
      rw [hu, hv] at h1
      rw [← h2]
      have e1 : ((u : Int) = (x : Int)) ↔ u = x := by omega
      have e2 : ((v : Int) = (x : Int)) ↔ v = x := by omega
      simp only [e1, e2] at h1
      split <;> split <;> split at h1 <;> split at h1 <;> omega
    have hb2 : 0 ≤ at_ k x ∧ at_ k x ≤ 8194 := by
      have := dsm x
      rw [hat]
      split <;> split <;> omega
    have w3 : IntKind.i64.wrap (at_ k x + 1) = at_ k x + 1 := wrap_in (by omega) (by omega)
    simp [hx2, hxn, b7.cell x hx1, w3, b7.can hx1]
    have l8 := l7.set_fresh fb x (.int .i64 (at_ k x + 1))
    have b8 := b7.set (i := x) (at_ k x + 1)
    refine hmost x _ _ _ hx1 (l1.trans l8) fun h9 l9 => ⟨l9, fun _ => ?_⟩
    simp [hb1]
    exact need_t _ _ fun _ => ⟨_, by omega, (hI2 _ _ _).2 ⟨k + 1, by rw [w2], by omega, rfl, l8.trans l9, (b8.le l9).ext fun y _ => (hx3 y).symm⟩⟩
  · have : k = 2 := by omega
    subst this
    refine ⟨_, ?_, (hI _ _ _).2 ⟨j + 1, by rw [w1], by omega, rfl, l7, b7.ext fun x hx => ?_⟩⟩
    · omega
    · rw [hat, dj]
      unfold endsAt
      rw [hu, hv]
      have e1 : ((u : Int) = (x : Int)) ↔ u = x := by omega
      have e2 : ((v : Int) = (x : Int)) ↔ v = x := by omega
      simp only [e1, e2]
      split <;> split <;> simp_all <;> omega

end Go.Proofs.Ythchjolcjicpgaa
