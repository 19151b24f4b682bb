/- From a contract over partial heaps to a law's row. -/
import Derived.Test.YthchjolcjicpgaaPred
import Derived.ProofKit
import Derived.Below
import Derived.OpenShut
import Derived.Lib.SmallJoins
namespace Go.HW
open Go.ChangeShapes Go.WideShapes Go.ChangeAt Go.RowKit

/-- All that is in memory; nothing of it may be written. -/
def hOf (W : World) : Heap := ⟨fun b i => W.cell? ⟨b, i, none⟩, fun _ => none⟩

theorem hOf_sat (W : World) : Sat W W (hOf W) :=
  ⟨⟨fun _ _ _ e => e, fun _ _ _ e => absurd e (by simp [hOf])⟩, fun _ _ e => absurd e (by simp [hOf]), fun _ _ => rfl, Nat.le_refl _, rfl, rfl, rfl⟩

theorem HCalls.run {P : Program} {f : FuncId} {args : Array Value} {W : World} {R : Ending → Heap → Prop} (c : HCalls P f args (hOf W) R) :
    Calls P f args W fun e W' => (∃ h', R e h') ∧ Below W.heap.size W W' :=
  (c W W (hOf_sat W)).mono fun e W' ⟨h', s, r⟩ => ⟨⟨h', r⟩, s.os, s.tape, s.out, s.size, s.old⟩

theorem trodAll_stays {H : Type} {enc : TypeId × Value → H} {P : Program} (hl : laidOutB P = true) {W W' : World} (bel : Below W.heap.size W W') : ∀ (ts : List TypeId) (vs : List Value) (ds : List (DataW H)) (ps : List MemPlace),
    ts.all (fun t => P.readableRec t && decide (t < P.types.size)) = true → DataW.TrodAll enc P W 0 (fun _ => true) true ts vs ds ps → DataW.TrodAll enc P W' 0 (fun b => decide (b < W.heap.size)) true ts vs ds ps := by
  intro ts
  induction ts with
  | nil =>
    intro vs ds ps _ h
    cases vs <;> cases ds <;> exact h
  | cons t ts ih =>
    intro vs ds ps hr h
    cases vs with
    | nil => cases ds <;> exact h
    | cons v vs =>
      cases ds with
      | nil => exact h
      | cons d ds =>
        obtain ⟨p, q, h1, h2, h3⟩ := h
        simp only [List.all_cons, Bool.and_eq_true, decide_eq_true_eq] at hr
        refine ⟨p, q, Below.trod hl hr.1.1 hr.1.2 h1 bel ?_, ih vs ds q (by simpa using hr.2) h2, h3⟩
        obtain ⟨m, hm⟩ := h1
        exact DataW.trod_lt m _ _ _ hm

/-- What a law's row asks for at the end. -/
theorem row_post {H : Type} {enc : TypeId × Value → H} {P : Program} {f : Func} {s : ChangeSpec} {W W' : World} {args : Array Value} {ds gs : List (DataW H)} {before : List MemPlace} {tb : TypeId} (hl : laidOutB P = true)
    (hW : DataW.Whole enc P f.params.toList s.vars false W args.toList ds gs before) (hv : s.vars = []) (hr : f.params.toList.all (fun t => P.readableRec t && decide (t < P.types.size)) = true)
    (hs : s.fn H ds = { results := [.lit (.bool true)], args := ds }) (hres : f.resultTypes = #[tb]) (htb : P.underlying tb = some .bool) (bel : Below W.heap.size W W') :
    s.post enc P f false true false false W args (.bool true) W' := by
  have hW' := hW
  obtain ⟨p, q, hA, hV, rfl, hfz, hnd⟩ := hW
  have hgs : gs = [] := by
    rw [hv] at hV
    cases gs with
    | nil => rfl
    | cons g gs => exact hV.elim
  subst hgs
  refine ⟨ds, [], _, [], p, [], hW', ?_, ?_, ?_, bel.frame _, fun h => by cases h⟩
  · rw [List.append_nil, hs, hres]
    exact trodAll_mk1 (shut_bool htb _)
  · rw [List.append_nil, hs]
    exact trodAll_stays hl bel _ _ _ _ hr hA
  · rw [List.append_nil, hs, hv]
    rfl

end Go.HW
