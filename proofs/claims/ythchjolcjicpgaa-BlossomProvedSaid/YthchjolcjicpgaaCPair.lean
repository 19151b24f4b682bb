/- Contracts of the functions of bimatch. -/
import Derived.Test.YthchjolcjicpgaaPred
import Derived.Test.YthchjolcjicpgaaFPair
namespace Go.Proofs.Ythchjolcjicpgaa
open Go.HW

/-- What never changes of a matching's search: the graph. -/
structure PG (h : Heap) (p : Nat) (n left : Nat) (es : List RE) : Prop where
  c0 : h.cell p 0 = some (.int .i64 n)
  c1 : ∃ x, h.cell p 1 = some x ∧ ES h x es
  c2 : h.cell p 2 = some (.int .i64 left)
  inn : ∀ (i : Nat) (e : RE), es[i]? = some e → 0 ≤ e.u ∧ e.u < n ∧ 0 ≤ e.v ∧ e.v < n
  small : n ≤ 1024

theorem other_c {h : Heap} {p n left : Nat} {es : List RE} (g : PG h p n left es) {i : Nat} {e : RE} (he : es[i]? = some e) {v : Int} (hv : 0 ≤ v ∧ v < n) :
    HCalls Try.prog 86 #[.pointer (some ⟨p, 0, none⟩), .int .i64 i, .int .i64 v] h fun en h' => en = .returned (.int .i64 (e.u + e.v - v)) ∧ h' = h := by
  apply H86
  obtain ⟨x, hx, ⟨A, c, rfl, _, hc⟩⟩ := g.c1
  obtain ⟨b, o, rfl, h0, h1, _, _⟩ := hc i e he
  have hi : i < es.length := (List.getElem?_eq_some_iff.1 he).1
  have bd := g.inn i e he
  have hs := g.small
  have w1 : IntKind.i64.wrap (e.u + e.v) = e.u + e.v := wrap_in (by omega) (by omega)
  have w2 : IntKind.i64.wrap (e.u + e.v - v) = e.u + e.v - v := wrap_in (by omega) (by omega)
  have hil : (i : Int) < (es.length : Int) := by omega
  simp [F86, hx, hil, h0, h1, w1, w2]

theorem take_c {h : Heap} {p n left bb c : Nat} {es : List RE} {by_ : Nat → Int} (g : PG h p n left es) (hb : h.cell p 4 = some (.slice (some ⟨bb, 0, none⟩) n c)) (ha : IA h bb n by_)
    {i : Nat} {e : RE} (he : es[i]? = some e) :
    HCalls Try.prog 155 #[.pointer (some ⟨p, 0, none⟩), .int .i64 i] h fun en h' => en = .returned (.tuple #[]) ∧ h' = (h.set bb e.u.toNat (.int .i64 i)).set bb e.v.toNat (.int .i64 i) := by
  apply H155
  obtain ⟨x, hx, ⟨A, c, rfl, _, hc⟩⟩ := g.c1
  obtain ⟨b, o, rfl, h0, h1, _, _⟩ := hc i e he
  have hi : i < es.length := (List.getElem?_eq_some_iff.1 he).1
  have bd := g.inn i e he
  have hil : (i : Int) < (es.length : Int) := by omega
  have cu : h.canB bb e.u.toNat = true := ha.can (by omega)
  have cv : h.canB bb e.v.toNat = true := ha.can (by omega)
  simp [F155, hx, hil, h0, h1, hb, bd, cu, cv]

end Go.Proofs.Ythchjolcjicpgaa
