/- Partial heaps, and a weakest precondition of the model's memory operations over them. -/
import Derived.WalkKit
namespace Go.HW

/-- What is known of memory: some cells, and of some blocks that they are unfrozen rows of so many cells of a type. -/
structure Heap where
  cell : Nat → Nat → Option Value
  info : Nat → Option (TypeId × Nat)

def Heap.at (h : Heap) (a : Addr) : Option Value := if a.spot.isSome then none else h.cell a.block a.off

structure Sat0 (w : World) (h : Heap) : Prop where
  cell : ∀ b i v, h.cell b i = some v → w.cell? ⟨b, i, none⟩ = some v
  info : ∀ b t n, h.info b = some (t, n) → ∃ c, w.heap[b]? = some (.cells c t (0, 0)) ∧ c.size = n

/-- 'w' fits the heap, and has all that was there in 'W0', of which nothing may be written. -/
structure Sat (W0 w : World) (h : Heap) : Prop extends Sat0 w h where
  own : ∀ b x, h.info b = some x → W0.heap.size ≤ b
  old : ∀ i, i < W0.heap.size → w.heap[i]? = W0.heap[i]?
  size : W0.heap.size ≤ w.heap.size
  os : w.os = W0.os
  out : w.output = W0.output
  tape : w.tape = W0.tape

structure Le (h h' : Heap) : Prop where
  cell : ∀ b i v, h.cell b i = some v → h'.cell b i = some v
  info : ∀ b x, h.info b = some x → h'.info b = some x

theorem Le.refl (h : Heap) : Le h h := ⟨fun _ _ _ h => h, fun _ _ h => h⟩
theorem Le.trans {a b c : Heap} (h : Le a b) (h' : Le b c) : Le a c :=
  ⟨fun _ _ _ e => h'.cell _ _ _ (h.cell _ _ _ e), fun _ _ e => h'.info _ _ (h.info _ _ e)⟩
theorem Sat0.le {w : World} {h h' : Heap} (s : Sat0 w h') (l : Le h h') : Sat0 w h :=
  ⟨fun _ _ _ e => s.cell _ _ _ (l.cell _ _ _ e), fun _ _ _ e => s.info _ _ _ (l.info _ _ e)⟩
theorem Sat.le {W0 w : World} {h h' : Heap} (s : Sat W0 w h') (l : Le h h') : Sat W0 w h :=
  ⟨s.toSat0.le l, fun _ _ e => s.own _ _ (l.info _ _ e), s.old, s.size, s.os, s.out, s.tape⟩

/-- A block of which nothing is known. -/
def Heap.fresh (h : Heap) (r : Nat) : Prop := h.info r = none ∧ ∀ i, h.cell r i = none

/-- A new block. -/
def Heap.new (h : Heap) (r : Nat) (c : Array Value) (t : TypeId) : Heap :=
  ⟨fun b i => if b = r then c[i]? else h.cell b i, fun b => if b = r then some (t, c.size) else h.info b⟩

/-- A cell is written. -/
def Heap.set (h : Heap) (b i : Nat) (v : Value) : Heap :=
  ⟨fun b' i' => if b' = b ∧ i' = i then some v else h.cell b' i', h.info⟩

/-- May the cell be written? -/
def Heap.can (h : Heap) (b i : Nat) : Prop := ∃ t n, h.info b = some (t, n) ∧ i < n

theorem Heap.le_new {h : Heap} {r : Nat} (hr : h.fresh r) (c : Array Value) (t : TypeId) : Le h (h.new r c t) := by
  refine ⟨fun b i v e => ?_, fun b x e => ?_⟩
  · simp only [Heap.new]
    split
    · next hb => subst hb; rw [hr.2 i] at e; cases e
    · exact e
  · simp only [Heap.new]
    split
    · next hb => subst hb; rw [hr.1] at e; cases e
    · exact e

theorem cell?_lt {w : World} {b i : Nat} {v : Value} (h : w.cell? ⟨b, i, none⟩ = some v) : b < w.heap.size := by
  unfold World.cell? at h
  rcases Nat.lt_or_ge b w.heap.size with hlt | hge
  · exact hlt
  · simp [Array.getElem?_eq_none hge] at h

theorem Sat0.fresh {w : World} {h : Heap} (s : Sat0 w h) : h.fresh w.heap.size := by
  constructor
  · cases e : h.info w.heap.size with
    | none => rfl
    | some x =>
      obtain ⟨t, n⟩ := x
      obtain ⟨c, hc, _⟩ := s.info _ _ _ e
      simp at hc
  · intro i
    cases e : h.cell w.heap.size i with
    | none => rfl
    | some v => exact absurd (cell?_lt (s.cell _ _ _ e)) (by omega)

theorem Sat0.new {w : World} {h : Heap} (s : Sat0 w h) (c : Array Value) (t : TypeId) :
    Sat0 { w with heap := w.heap.push (.cells c t) } (h.new w.heap.size c t) := by
  refine ⟨fun b i v e => ?_, fun b t' n e => ?_⟩
  · simp only [Heap.new] at e
    split at e
    · next hb => subst hb; simpa [World.cell?] using e
    · next hb =>
      have h1 := s.cell _ _ _ e
      have h2 := cell?_lt h1
      unfold World.cell? at h1 ⊢
      simpa [Array.getElem?_push, show ¬ b = w.heap.size from hb] using h1
  · simp only [Heap.new] at e
    split at e
    · next hb => subst hb; simp only [Option.some.injEq, Prod.mk.injEq] at e; obtain ⟨rfl, rfl⟩ := e; exact ⟨c, by simp, rfl⟩
    · next hb =>
      obtain ⟨c', hc, hn⟩ := s.info _ _ _ e
      exact ⟨c', by simpa [Array.getElem?_push, show ¬ b = w.heap.size from hb] using hc, hn⟩

theorem Sat0.set {w : World} {h : Heap} (s : Sat0 w h) {b i : Nat} (hc : h.can b i) (v : Value) : Sat0 (w.setCell ⟨b, i, none⟩ v) (h.set b i v) := by
  obtain ⟨t, n, hi, hlt⟩ := hc
  obtain ⟨c, hcs, hn⟩ := s.info _ _ _ hi
  refine ⟨fun b' i' v' e => ?_, fun b' t' n' e => ?_⟩
  · simp only [Heap.set] at e
    split at e
    · next hb =>
      obtain ⟨rfl, rfl⟩ := hb
      cases e
      simp [World.cell?, World.setCell, Array.getElem?_modify, hcs, hn, hlt]
    · next hb =>
      have h1 := s.cell _ _ _ e
      by_cases hbb : b' = b
      · subst hbb
        have hii : ¬ i' = i := fun h => hb ⟨rfl, h⟩
        simp [World.cell?, World.setCell, Array.getElem?_modify, hcs] at h1 ⊢
        rw [Array.getElem?_setIfInBounds_ne (by omega)]
        exact h1
      · unfold World.cell? at h1 ⊢
        simp only [World.setCell, Array.getElem?_modify]
        rw [if_neg (by omega)]
        exact h1
  · simp only [Heap.set] at e
    obtain ⟨c', hc', hn'⟩ := s.info _ _ _ e
    by_cases hbb : b' = b
    · subst hbb
      rw [hcs] at hc'
      cases hc'
      exact ⟨c.setIfInBounds i v, by simp [World.setCell, Array.getElem?_modify, hcs], by simp [hn']⟩
    · refine ⟨c', ?_, hn'⟩
      simp only [World.setCell, Array.getElem?_modify]
      rw [if_neg (by omega)]
      exact hc'

theorem Sat0.drawn {w : World} {h : Heap} (s : Sat0 w h) (n : Nat) : Sat0 { w with drawn := n } h := ⟨s.cell, s.info⟩

theorem Sat.fresh {W0 w : World} {h : Heap} (s : Sat W0 w h) : h.fresh w.heap.size := s.toSat0.fresh
theorem Sat.new {W0 w : World} {h : Heap} (s : Sat W0 w h) (c : Array Value) (t : TypeId) : Sat W0 { w with heap := w.heap.push (.cells c t) } (h.new w.heap.size c t) := by
  have hz := s.size
  refine ⟨s.toSat0.new c t, fun b x e => ?_, fun i hi => ?_, by simp; omega, s.os, s.out, s.tape⟩
  · simp only [Heap.new] at e
    split at e
    · omega
    · exact s.own _ _ e
  · have : ¬ i = w.heap.size := by omega
    simp only [Array.getElem?_push, if_neg this]
    exact s.old i hi
theorem Sat.set {W0 w : World} {h : Heap} (s : Sat W0 w h) {b i : Nat} (hc : h.can b i) (v : Value) : Sat W0 (w.setCell ⟨b, i, none⟩ v) (h.set b i v) := by
  obtain ⟨t, n, hi, hlt⟩ := hc
  have ho := s.own _ _ hi
  refine ⟨s.toSat0.set ⟨t, n, hi, hlt⟩ v, fun b x e => s.own b x e, fun j hj => ?_, by simpa [World.setCell] using s.size, s.os, s.out, s.tape⟩
  simp only [World.setCell, Array.getElem?_modify]
  rw [if_neg (by omega)]
  exact s.old j hj
theorem Sat.drawn {W0 w : World} {h : Heap} (s : Sat W0 w h) (n : Nat) : Sat W0 { w with drawn := n } h := ⟨s.toSat0.drawn n, s.own, s.old, s.size, s.os, s.out, s.tape⟩

def oneVal : Value → Bool
  | .agg _ | .tuple _ => false
  | _ => true

def rsat {α : Type} (r : Result α) (Q : α → World → Prop) (E : Halt → World → Prop) : Prop :=
  match r with
  | .ok a w => Q a w
  | .halt h w => E h w

/-- The weakest precondition of the model's memory programs, over partial heaps: 'Q': it ends; 'E': it panics. -/
def hwp {α : Type} (P : Program) : Sem α → (α → Heap → Prop) → (Value → Heap → Prop) → Heap → Prop
  | .pure a, Q, _, h => Q a h
  | .load _ a k, Q, E, h => ∃ v, h.at a = some v ∧ hwp P (k v) Q E h
  | .store _ a v k, Q, E, h => oneVal v = true ∧ a.spot = none ∧ h.can a.block a.off ∧ hwp P k Q E (h.set a.block a.off v)
  | .new o k, Q, E, h => ∃ c t, o = .cells c t ∧ ∀ r, h.fresh r → ∃ h', Le h' (h.new r c t) ∧ hwp P (k r) Q E h'
  | .shape r k, Q, E, h => ∃ t n, h.info r = some (t, n) ∧ hwp P (k (some (t, n))) Q E h
  | .freeze _ _ _, _, _, _ => False
  | .frozen a k, Q, E, h => ∃ t n, h.info a.block = some (t, n) ∧ hwp P (k false) Q E h
  | .getObj _ _, _, _, _ => False
  | .setObj _ _ _, _, _, _ => False
  | .choose q k, Q, E, h => if q.forced then hwp P (k 0) Q E h else ∀ t, hwp P (k (q.cut t)) Q E h
  | .sys _ _, _, _, _ => False
  | .program k, Q, E, h => hwp P (k P) Q E h
  | .mark _ k, Q, E, h => hwp P k Q E h
  | .halt (.panic v), _, E, h => E v h
  | .halt _, _, _, _ => False

theorem hwp_bind {α β : Type} (P : Program) (s : Sem α) (f : α → Sem β) (Q : β → Heap → Prop) (E : Value → Heap → Prop) :
    ∀ h, hwp P (s.bind f) Q E h ↔ hwp P s (fun a h => hwp P (f a) Q E h) E h := by
  induction s with
  | pure a => intro h; rfl
  | load m a k ih => intro h; simp only [Sem.bind, hwp, ih]
  | store m a v k ih => intro h; simp only [Sem.bind, hwp, ih]
  | new o k ih => intro h; simp only [Sem.bind, hwp, ih]
  | shape r k ih => intro h; simp only [Sem.bind, hwp, ih]
  | freeze a n k ih => intro h; simp only [Sem.bind, hwp]
  | frozen a k ih => intro h; simp only [Sem.bind, hwp, ih]
  | getObj r k ih => intro h; simp only [Sem.bind, hwp]
  | setObj r o k ih => intro h; simp only [Sem.bind, hwp]
  | choose q k ih => intro h; simp only [Sem.bind, hwp, ih]
  | sys c k ih => intro h; simp only [Sem.bind, hwp]
  | program k ih => intro h; simp only [Sem.bind, hwp, ih]
  | mark m k ih => intro h; simp only [Sem.bind, hwp, ih]
  | halt x => intro h; cases x <;> simp only [Sem.bind, hwp]

theorem hwp_mono {α : Type} (P : Program) (s : Sem α) {Q Q' : α → Heap → Prop} {E E' : Value → Heap → Prop} (hQ : ∀ a h, Q a h → Q' a h)
    (hE : ∀ a h, E a h → E' a h) : ∀ h, hwp P s Q E h → hwp P s Q' E' h := by
  induction s with
  | pure a => intro h; exact hQ _ _
  | load m a k ih => intro h ⟨v, h1, h2⟩; exact ⟨v, h1, ih _ _ h2⟩
  | store m a v k ih => intro h ⟨h1, h2, h3, h4⟩; exact ⟨h1, h2, h3, ih _ h4⟩
  | new o k ih => intro h ⟨c, t, h1, h2⟩; exact ⟨c, t, h1, fun r hr => let ⟨h', l, x⟩ := h2 r hr; ⟨h', l, ih _ _ x⟩⟩
  | shape r k ih => intro h ⟨t, n, h1, h2⟩; exact ⟨t, n, h1, ih _ _ h2⟩
  | freeze a n k ih => intro h h1; exact h1.elim
  | frozen a k ih => intro h ⟨t, n, h1, h2⟩; exact ⟨t, n, h1, ih _ _ h2⟩
  | getObj r k ih => intro h h1; exact h1.elim
  | setObj r o k ih => intro h h1; exact h1.elim
  | choose q k ih =>
    intro h h1
    simp only [hwp] at h1 ⊢
    split at h1
    · next hq => rw [if_pos hq]; exact ih _ _ h1
    · next hq => rw [if_neg hq]; exact fun t => ih _ _ (h1 t)
  | sys c k ih => intro h h1; exact h1.elim
  | program k ih => intro h h1; exact ih _ _ h1
  | mark m k ih => intro h h1; exact ih _ h1
  | halt x => intro h h1; cases x <;> first | exact hE _ _ h1 | exact h1.elim

/-- Sound: over every world that fits the heap. -/
theorem hwp_run {α : Type} (P : Program) {W0 : World} (s : Sem α) {Q : α → Heap → Prop} {E : Value → Heap → Prop} : ∀ h w, Sat W0 w h → hwp P s Q E h →
    rsat (s.run P w) (fun a w' => ∃ h', Sat W0 w' h' ∧ Q a h') (fun x w' => ∃ v h', x = .panic v ∧ Sat W0 w' h' ∧ E v h') := by
  induction s with
  | pure a => intro h w hs h1; exact ⟨h, hs, h1⟩
  | load m a k ih =>
    intro h w hs ⟨v, h1, h2⟩
    obtain ⟨b, i, sp⟩ := a
    unfold Heap.at at h1
    cases sp with
    | some x => simp at h1
    | none =>
      simp only [Option.isSome_none, Bool.false_eq_true, if_false] at h1
      simp only [Sem.run, hs.cell _ _ _ h1]
      exact ih _ _ _ hs h2
  | store m a v k ih =>
    intro h w hs ⟨h1, h2, h3, h4⟩
    obtain ⟨b, i, sp⟩ := a
    simp only at h2 h3 h4
    subst h2
    have hset := hs.set h3 v
    obtain ⟨t, n, hi, hlt⟩ := h3
    obtain ⟨c, hcs, hn⟩ := hs.info _ _ _ hi
    have hc : w.cell? ⟨b, i, none⟩ = some (c[i]'(by omega)) := by simp [World.cell?, hcs, hn, hlt]
    have hf : w.frozen? ⟨b, i, none⟩ = false := by simp [World.frozen?, hcs]
    cases v <;> first | (simp [oneVal] at h1; done) | (simp only [Sem.run, hc, hf, Bool.false_eq_true, if_false]; exact ih _ _ hset h4)
  | new o k ih =>
    intro h w hs ⟨c, t, h1, h2⟩
    subst h1
    simp only [Sem.run]
    obtain ⟨h', l, x⟩ := h2 _ hs.fresh
    exact ih _ _ _ ((hs.new c t).le l) x
  | shape r k ih =>
    intro h w hs ⟨t, n, h1, h2⟩
    obtain ⟨c, hcs, hn⟩ := hs.info _ _ _ h1
    have : w.shape? r = some (t, n) := by simp [World.shape?, hcs, hn]
    simp only [Sem.run, this]
    exact ih _ _ _ hs h2
  | freeze a n k ih => intro h w hs h1; exact h1.elim
  | frozen a k ih =>
    intro h w hs ⟨t, n, h1, h2⟩
    obtain ⟨c, hcs, hn⟩ := hs.info _ _ _ h1
    have : w.frozen? a = false := by simp [World.frozen?, hcs]
    simp only [Sem.run, this]
    exact ih _ _ _ hs h2
  | getObj r k ih => intro h w hs h1; exact h1.elim
  | setObj r o k ih => intro h w hs h1; exact h1.elim
  | choose q k ih =>
    intro h w hs h1
    simp only [hwp] at h1
    simp only [Sem.run]
    split at h1
    · next hq => rw [if_pos hq]; exact ih _ _ _ hs h1
    · next hq => rw [if_neg hq]; exact ih _ _ _ (hs.drawn _) (h1 _)
  | sys c k ih => intro h w hs h1; exact h1.elim
  | program k ih => intro h w hs h1; exact ih _ _ _ hs h1
  | mark m k ih => intro h w hs h1; exact ih _ _ hs h1
  | halt x =>
    intro h w hs h1
    cases x <;> first | exact h1.elim | exact ⟨_, h, rfl, hs, h1⟩

end Go.HW
