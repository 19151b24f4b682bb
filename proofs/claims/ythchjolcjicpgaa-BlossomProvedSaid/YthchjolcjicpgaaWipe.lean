/- Blocks that have been written over. -/
import Derived.Test.YthchjolcjicpgaaGrow
namespace Go.HW

/-- Only blocks of 'P' have been written. -/
def Wiped (P : Nat → Prop) (h h' : Heap) : Prop := (∀ b, h'.info b = h.info b) ∧ ∀ b, ¬ P b → ∀ i, h'.cell b i = h.cell b i
theorem Wiped.refl (P : Nat → Prop) (h : Heap) : Wiped P h h := ⟨fun _ => rfl, fun _ _ _ => rfl⟩
theorem Wiped.trans {P : Nat → Prop} {h h' h2 : Heap} (a : Wiped P h h') (b : Wiped P h' h2) : Wiped P h h2 := ⟨fun x => (b.1 x).trans (a.1 x), fun x hx i => (b.2 x hx i).trans (a.2 x hx i)⟩
theorem Wiped.sub {P Q : Nat → Prop} {h h' : Heap} (a : Wiped P h h') (s : ∀ b, P b → Q b) : Wiped Q h h' := ⟨a.1, fun x hx i => a.2 x (fun h => hx (s x h)) i⟩
theorem Wiped.set {P : Nat → Prop} {h h' : Heap} (a : Wiped P h h') {b : Nat} (hb : P b) (i : Nat) (v : Value) : Wiped P h (h'.set b i v) :=
  ⟨fun x => a.1 x, fun x hx j => by
    have : x ≠ b := fun e => hx (e ▸ hb)
    rw [set_cell_nb _ _ _ _ this]
    exact a.2 x hx j⟩
theorem Wiped.le {P : Nat → Prop} {S h h' : Heap} (a : Wiped P h h') (l : Le S h) (hf : ∀ b, P b → S.fresh b) : Le S h' :=
  ⟨fun b i v hv => by
    have : ¬ P b := fun hp => (hf b hp).ne hv rfl
    rw [a.2 b this]
    exact l.cell _ _ _ hv, fun b x hx => by rw [a.1]; exact l.info _ _ hx⟩
theorem GL.wiped {P : Nat → Prop} {e : TypeId} {S h h' : Heap} {x : Value} {l : List Nat} {bk : Option Nat} (g : GL e S h False x l bk) (a : Wiped P h h') (hP : ∀ b, bk = some b → ¬ P b) : GL e S h' False x l bk := by
  cases bk with
  | none => exact g
  | some b =>
    obtain ⟨f, c, rfl, hc, hi, h1, h2⟩ := g
    exact ⟨f, c, rfl, hc, by rw [a.1]; exact hi, fun j i hj => by rw [a.2 b (hP b rfl)]; exact h1 j i hj, fun h => h.elim⟩

/-- A slice of whole numbers whose block may be written. -/
def W3 (h : Heap) (x : Value) (k : Nat) (P : Nat → Prop) : Prop := (k = 0 ∧ x = .slice none 0 0) ∨ ∃ b c, x = .slice (some ⟨b, 0, none⟩) k c ∧ k ≤ c ∧ h.info b = some (3, c) ∧ P b
theorem GL.w3 {S h : Heap} {x : Value} {l : List Nat} {bk : Option Nat} (g : GL 3 S h False x l bk) {P : Nat → Prop} (hP : ∀ b, bk = some b → P b) : W3 h x l.length P := by
  cases bk with
  | none => obtain ⟨rfl, rfl⟩ := g; exact .inl ⟨rfl, rfl⟩
  | some b => obtain ⟨_, c, rfl, hc, hi, _⟩ := g; exact .inr ⟨b, c, rfl, hc, hi, hP b rfl⟩
theorem W3.wiped {h h' : Heap} {x : Value} {k : Nat} {P Q : Nat → Prop} (w : W3 h x k P) (a : Wiped Q h h') : W3 h' x k P := by
  rcases w with h | ⟨b, c, h1, h2, h3, h4⟩
  · exact .inl h
  · exact .inr ⟨b, c, h1, h2, by rw [a.1]; exact h3, h4⟩

end Go.HW
