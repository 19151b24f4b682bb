/- The contract of vouch.look: a call, and the refusal by which it may have been given up. -/
import Derived.WalkKit
import Derived.Defers
import Derived.Recover
import Derived.Tactics
import Derived.Tactics2
import Derived.Test.YthchjolcjicpgaaTab
namespace Go.Proofs.Ythchjolcjicpgaa
open Go.HW

def refusal (c : Int) : List PanicEntry := [{ v := .iface 135 (.agg #[.int .i64 c]), recovered := false }]

theorem ta_some (c : Int) (w : World) : (Instr.typeAssert (.iface 135 (.agg #[.int .i64 c])) 20 135 true).run Try.prog w = .ok (.tuple #[.agg #[.int .i64 c], .bool true]) w := by kernel_rfl
theorem ta_nil (w : World) : (Instr.typeAssert .nilIface 20 135 true).run Try.prog w = .ok (.tuple #[.agg #[.int .i64 0], .bool false]) w := by kernel_rfl

/-- Operations without calls, in the order of the text, in a deferred frame. -/
inductive Runs (P : Program) : List Oper → Act → List Frame → World → Act → List Frame → World → Prop
  | nil (a : Act) (cs : List Frame) (w : World) : Runs P [] a cs w a cs w
  | val {o : Oper} {rest : List Oper} {a a1 a' : Act} {cs cs' : List Frame} {w w1 w' : World} {v : Value} (hg : o.guard = none) (hr : (execOp a.eval o).run P w = .ok (.value v) w1) (ha : a.put o.dst v = a1) (h : Runs P rest a1 cs w1 a' cs' w') : Runs P (o :: rest) a cs w a' cs' w'
  | skip {o : Oper} {rest : List Oper} {a a1 a' : Act} {cs cs' : List Frame} {w w1 w' : World} (hg : o.guard = none) (hr : (execOp a.eval o).run P w = .ok .skip w1) (ha : a.put o.dst undef = a1) (h : Runs P rest a1 cs w1 a' cs' w') : Runs P (o :: rest) a cs w a' cs' w'
  | rec_ {o : Oper} {rest : List Oper} {a a1 a' : Act} {cs cs1 cs' : List Frame} {w w1 w' : World} {v : Value} (hg : o.guard = none) (hr : (execOp a.eval o).run P w = .ok .recover w1) (hc : recoverD cs = some (v, cs1)) (ha : a.put o.dst v = a1) (h : Runs P rest a1 cs1 w1 a' cs' w') : Runs P (o :: rest) a cs w a' cs' w'
  | rec0 {o : Oper} {rest : List Oper} {a a1 a' : Act} {cs cs' : List Frame} {w w1 w' : World} (hg : o.guard = none) (hr : (execOp a.eval o).run P w = .ok .recover w1) (hc : recoverD cs = none) (ha : a.put o.dst .nilIface = a1) (h : Runs P rest a1 cs w1 a' cs' w') : Runs P (o :: rest) a cs w a' cs' w'

theorem Runs.toS {P : Program} {ops : Array Oper} {Q : Exit → Act → List Frame → World → Prop} {l : List Oper} {a a' : Act} {cs cs' : List Frame} {w w' : World} (r : Runs P l a cs w a' cs' w') (q : Q .normal a' cs' w') :
    ∀ pre : List Oper, ops.toList = pre ++ l → wpOpsS P ops Q (List.range' pre.length l.length) a cs w := by
  have at_ : ∀ (pre : List Oper) (o : Oper) (rest : List Oper), ops.toList = pre ++ o :: rest → ops[pre.length]? = some o := fun pre o rest e => by
    rw [← Array.getElem?_toList, e]; simp
  induction r with
  | nil a cs w => intro pre _; exact q
  | @val o rest a a1 a' cs cs' w w1 w' v hg hr ha h ih =>
    intro pre e
    rw [List.length_cons, List.range'_succ]
    simp only [wpOpsS, at_ _ _ _ e, Region.wanted, hg, if_true, hr, Oper.upon]
    rw [ha]
    have := ih q (pre ++ [o]) (by rw [e]; simp)
    rwa [List.length_append] at this
  | @skip o rest a a1 a' cs cs' w w1 w' hg hr ha h ih =>
    intro pre e
    rw [List.length_cons, List.range'_succ]
    simp only [wpOpsS, at_ _ _ _ e, Region.wanted, hg, if_true, hr, Oper.upon]
    rw [ha]
    have := ih q (pre ++ [o]) (by rw [e]; simp)
    rwa [List.length_append] at this
  | @rec_ o rest a a1 a' cs cs1 cs' w w1 w' v hg hr hc ha h ih =>
    intro pre e
    rw [List.length_cons, List.range'_succ]
    simp only [wpOpsS, at_ _ _ _ e, Region.wanted, hg, if_true, hr, hc]
    rw [ha]
    have := ih q (pre ++ [o]) (by rw [e]; simp)
    rwa [List.length_append] at this
  | @rec0 o rest a a1 a' cs cs' w w1 w' hg hr hc ha h ih =>
    intro pre e
    rw [List.length_cons, List.range'_succ]
    simp only [wpOpsS, at_ _ _ _ e, Region.wanted, hg, if_true, hr, hc]
    rw [ha]
    have := ih q (pre ++ [o]) (by rw [e]; simp)
    rwa [List.length_append] at this

theorem wpS_runs {P : Program} {ops : Array Oper} {Q : Exit → Act → List Frame → World → Prop} {id : Nat} {a a' : Act} {cs cs' : List Frame} {w w' : World} (r : Runs P ops.toList a cs w a' cs' w') (q : Q .normal a' cs' w') : (Code.region id ops false).wpS P Q a cs w := by
  apply wpS_region
  have := r.toS (ops := ops) (Q := Q) q [] rfl
  rwa [List.range_eq_range']

theorem st_new (c x : Int) (w : World) : (Instr.storeAt 135 (.pointer (some ⟨w.heap.size, 0, none⟩)) (.agg #[.int .i64 c])).run Try.prog (w.alloc (.cells #[.int .i64 x] 135)) = .ok () (w.alloc (.cells #[.int .i64 c] 135)) := by
  have h1 : (sizeOf 135).run Try.prog (w.alloc (.cells #[.int .i64 x] 135)) = .ok 1 (w.alloc (.cells #[.int .i64 x] 135)) := by kernel_rfl
  have hh : ∀ o, (w.alloc o).heap = w.heap.push o := fun _ => rfl
  have h2 : (w.alloc (.cells #[.int .i64 x] 135)).cell? ⟨w.heap.size, 0, none⟩ = some (.int .i64 x) := by unfold World.cell?; rw [hh]; simp
  have h3 : (w.alloc (.cells #[.int .i64 x] 135)).frozen? ⟨w.heap.size, 0, none⟩ = false := by unfold World.frozen?; rw [hh]; simp
  have h4 : (w.alloc (.cells #[.int .i64 x] 135)).setCell ⟨w.heap.size, 0, none⟩ (.int .i64 c) = w.alloc (.cells #[.int .i64 c] 135) := by
    unfold World.setCell
    have : (w.alloc (.cells #[.int .i64 x] 135)).heap.modify w.heap.size (fun | .cells cs e fr => .cells (cs.setIfInBounds 0 (.int .i64 c)) e fr | o => o) = (w.alloc (.cells #[.int .i64 c] 135)).heap := by
      rw [hh, hh]
      apply Array.ext
      · simp
      · intro i h1 h2
        simp at h2
        rw [Array.getElem_modify]
        simp only [Array.getElem_push]
        split
        · next e => subst e; simp
        · next e => rw [dif_pos (by omega), dif_pos (by omega)]
    exact congrArg (fun hp => ({ (w.alloc (.cells #[.int .i64 x] 135)) with heap := hp } : World)) this
  simp only [Instr.storeAt, Instr.sureAddr, Sem.run_bind, Sem.run_pure, Result.andThen_ok, storeVar, h1]
  rw [if_neg (by simp [Value.cells])]
  simp only [Value.cells, storeCells, add_plain, Sem.run_bind, store, Sem.run, h2, h3, Result.andThen_ok]
  simp [h4, Sem.run]

theorem st_code (p : Addr) (c x : Int) (w : World) (hc : w.cell? p = some (.int .i64 x)) (hz : w.frozen? p = false) : (Instr.storeAt 27 (.pointer (some p)) (.int .i64 c)).run Try.prog w = .ok () (w.setCell p (.int .i64 c)) := by
  have h1 : (sizeOf 27).run Try.prog w = .ok 1 w := by kernel_rfl
  have hp : p.add 0 = p := by
    have hs := World.cell?_spot hc
    obtain ⟨b, i, sp⟩ := p
    simp only at hs
    subst hs
    simp
  simp only [Instr.storeAt, Instr.sureAddr, Sem.run_bind, Sem.run_pure, Result.andThen_ok, storeVar, h1]
  rw [if_neg (by simp [Value.cells])]
  simp only [Value.cells, storeCells, hp, Sem.run_bind, store, Sem.run, hc, hz, Result.andThen_ok]
  simp [Sem.run]

/-- The slots of the deferred function. -/
def A (p : Addr) (v1 v2 v3 v4 v5 v6 v7 v8 v9 v10 : Value) : Act := ⟨#[.pointer (some p), v1, v2, v3, v4, v5, v6, v7, v8, v9, v10], []⟩

theorem catch_panicking (p : Addr) (x c : Int) (w : World) (hc : w.cell? p = some (.int .i64 x)) (hz : w.frozen? p = false) :
    CallsD Try.prog 88 #[.pointer (some p)] (.panicking (refusal c)) w fun e u' w' =>
      e = .returned (.tuple #[]) ∧ u' = .panicking [{ v := .iface 135 (.agg #[.int .i64 c]), recovered := true }] ∧ w' = (w.alloc (.cells #[.int .i64 c] 135)).setCell p (.int .i64 c) := by
  refine callsD_of_wpS Try.func88 rfl fun c₀ cs hu => ?_
  apply wpS_seq
  refine wpS_runs (a' := A p (.pointer (some ⟨w.heap.size, 0, none⟩)) (.bool true) (.tuple #[.agg #[.int .i64 c], .bool true]) (.iface 135 (.agg #[.int .i64 c])) (.tuple #[.agg #[.int .i64 c], .bool true]) (.agg #[.int .i64 c]) (.bool true) undef undef undef) (cs' := { c₀ with mode := .panicking [{ v := .iface 135 (.agg #[.int .i64 c]), recovered := true }] } :: cs) (w' := w.alloc (.cells #[.int .i64 c] 135)) ?_ ?_
  unfold refusal at hu
  refine .rec_ (a1 := A p undef undef undef (.iface 135 (.agg #[.int .i64 c])) undef undef undef undef undef undef) (w1 := w) rfl (by kernel_rfl) (v := .iface 135 (.agg #[.int .i64 c])) (by simp only [recoverD, hu]; rfl) (by kernel_rfl) ?_
  refine .val (a1 := A p undef undef undef (.iface 135 (.agg #[.int .i64 c])) (.tuple #[.agg #[.int .i64 c], .bool true]) undef undef undef undef undef) rfl (w1 := w) (v := .tuple #[.agg #[.int .i64 c], .bool true]) (by kernel_rfl) (by kernel_rfl) ?_
  refine .val (a1 := A p undef undef (.tuple #[.agg #[.int .i64 c], .bool true]) (.iface 135 (.agg #[.int .i64 c])) (.tuple #[.agg #[.int .i64 c], .bool true]) undef undef undef undef undef) rfl (w1 := w) (v := .tuple #[.agg #[.int .i64 c], .bool true]) (by kernel_rfl) (by kernel_rfl) ?_
  refine .val (a1 := A p undef undef (.tuple #[.agg #[.int .i64 c], .bool true]) (.iface 135 (.agg #[.int .i64 c])) (.tuple #[.agg #[.int .i64 c], .bool true]) (.agg #[.int .i64 c]) undef undef undef undef) rfl (w1 := w) (v := .agg #[.int .i64 c]) (by kernel_rfl) (by kernel_rfl) ?_
  refine .val (a1 := A p undef undef (.tuple #[.agg #[.int .i64 c], .bool true]) (.iface 135 (.agg #[.int .i64 c])) (.tuple #[.agg #[.int .i64 c], .bool true]) (.agg #[.int .i64 c]) (.bool true) undef undef undef) rfl (w1 := w) (v := .bool true) (by kernel_rfl) (by kernel_rfl) ?_
  refine .val (a1 := A p (.pointer (some ⟨w.heap.size, 0, none⟩)) undef (.tuple #[.agg #[.int .i64 c], .bool true]) (.iface 135 (.agg #[.int .i64 c])) (.tuple #[.agg #[.int .i64 c], .bool true]) (.agg #[.int .i64 c]) (.bool true) undef undef undef) rfl (w1 := w.alloc (.cells #[.int .i64 0] 135)) (v := .pointer (some ⟨w.heap.size, 0, none⟩)) (by kernel_rfl) (by kernel_rfl) ?_
  have hst := st_new c 0 w
  have hex := fun (a : Act) (h1 : a.eval (.tmp 1) = .pointer (some ⟨w.heap.size, 0, none⟩)) (h2 : a.eval (.tmp 6) = .agg #[.int .i64 c]) (o : Oper) (ho : o.op = .store 135 (.tmp 1) (.tmp 6)) =>
    (show (execOp a.eval o).run Try.prog (w.alloc (.cells #[.int .i64 0] 135)) = .ok .skip (w.alloc (.cells #[.int .i64 c] 135)) by simp only [execOp, ho, h1, h2, Sem.run_bind, hst, Result.andThen_ok]; rfl)
  refine .skip (a1 := A p (.pointer (some ⟨w.heap.size, 0, none⟩)) undef (.tuple #[.agg #[.int .i64 c], .bool true]) (.iface 135 (.agg #[.int .i64 c])) (.tuple #[.agg #[.int .i64 c], .bool true]) (.agg #[.int .i64 c]) (.bool true) undef undef undef) rfl (hex _ (by kernel_rfl) (by kernel_rfl) _ rfl) (by kernel_rfl) ?_
  refine .val (a1 := A p (.pointer (some ⟨w.heap.size, 0, none⟩)) (.bool true) (.tuple #[.agg #[.int .i64 c], .bool true]) (.iface 135 (.agg #[.int .i64 c])) (.tuple #[.agg #[.int .i64 c], .bool true]) (.agg #[.int .i64 c]) (.bool true) undef undef undef) rfl (w1 := w.alloc (.cells #[.int .i64 c] 135)) (v := .bool true) (by kernel_rfl) (by kernel_rfl) ?_
  exact .nil _ _ _
  simp only [Exit.thenS]
  apply wpS_seq
  refine wpS_runs (a' := A p (.pointer (some ⟨w.heap.size, 0, none⟩)) (.bool true) (.tuple #[.agg #[.int .i64 c], .bool true]) (.iface 135 (.agg #[.int .i64 c])) (.tuple #[.agg #[.int .i64 c], .bool true]) (.agg #[.int .i64 c]) (.bool true) (.bool true) undef undef) (cs' := { c₀ with mode := .panicking [{ v := .iface 135 (.agg #[.int .i64 c]), recovered := true }] } :: cs) (w' := w.alloc (.cells #[.int .i64 c] 135)) ?_ ?_
  refine .val (a1 := A p (.pointer (some ⟨w.heap.size, 0, none⟩)) (.bool true) (.tuple #[.agg #[.int .i64 c], .bool true]) (.iface 135 (.agg #[.int .i64 c])) (.tuple #[.agg #[.int .i64 c], .bool true]) (.agg #[.int .i64 c]) (.bool true) (.bool true) undef undef) rfl (w1 := w.alloc (.cells #[.int .i64 c] 135)) (v := .bool true) (by kernel_rfl) (by kernel_rfl) ?_
  exact .nil _ _ _
  simp only [Exit.thenS]
  refine wpS_cond (t := true) (by kernel_rfl) ?_
  simp only [if_true]
  refine wpS_runs (a' := A p (.pointer (some ⟨w.heap.size, 0, none⟩)) (.bool true) (.tuple #[.agg #[.int .i64 c], .bool true]) (.iface 135 (.agg #[.int .i64 c])) (.tuple #[.agg #[.int .i64 c], .bool true]) (.agg #[.int .i64 c]) (.bool true) (.bool true) (.pointer (some ⟨w.heap.size, 0, none⟩)) (.int .i64 c)) (cs' := { c₀ with mode := .panicking [{ v := .iface 135 (.agg #[.int .i64 c]), recovered := true }] } :: cs) (w' := (w.alloc (.cells #[.int .i64 c] 135)).setCell p (.int .i64 c)) ?_ ?_
  refine .val (a1 := A p (.pointer (some ⟨w.heap.size, 0, none⟩)) (.bool true) (.tuple #[.agg #[.int .i64 c], .bool true]) (.iface 135 (.agg #[.int .i64 c])) (.tuple #[.agg #[.int .i64 c], .bool true]) (.agg #[.int .i64 c]) (.bool true) (.bool true) (.pointer (some ⟨w.heap.size, 0, none⟩)) undef) rfl (w1 := w.alloc (.cells #[.int .i64 c] 135)) (v := .pointer (some ⟨w.heap.size, 0, none⟩)) (by kernel_rfl) (by kernel_rfl) ?_
  have hld : (Instr.loadAt 27 (.pointer (some ⟨w.heap.size, 0, none⟩))).run Try.prog (w.alloc (.cells #[.int .i64 c] 135)) = .ok (.int .i64 c) (w.alloc (.cells #[.int .i64 c] 135)) := by
    have h2 : (w.alloc (.cells #[.int .i64 c] 135)).cell? ⟨w.heap.size, 0, none⟩ = some (.int .i64 c) := by unfold World.cell?; rw [show (w.alloc (.cells #[.int .i64 c] 135)).heap = w.heap.push _ from rfl]; simp
    have h3 : (isAgg 27).run Try.prog (w.alloc (.cells #[.int .i64 c] 135)) = .ok false (w.alloc (.cells #[.int .i64 c] 135)) := by kernel_rfl
    simp only [Instr.loadAt, Instr.sureAddr, Sem.run_bind, Sem.run_pure, Result.andThen_ok, loadVar, h3]
    simp [load, Sem.run, h2]
  have hex2 := fun (a : Act) (h1 : a.eval (.tmp 9) = .pointer (some ⟨w.heap.size, 0, none⟩)) (o : Oper) (ho : o.op = .load 27 (.tmp 9)) =>
    (show (execOp a.eval o).run Try.prog (w.alloc (.cells #[.int .i64 c] 135)) = .ok (.value (.int .i64 c)) (w.alloc (.cells #[.int .i64 c] 135)) by simp only [execOp, ho, h1, Sem.run_bind, hld, Result.andThen_ok]; rfl)
  refine .val (a1 := A p (.pointer (some ⟨w.heap.size, 0, none⟩)) (.bool true) (.tuple #[.agg #[.int .i64 c], .bool true]) (.iface 135 (.agg #[.int .i64 c])) (.tuple #[.agg #[.int .i64 c], .bool true]) (.agg #[.int .i64 c]) (.bool true) (.bool true) (.pointer (some ⟨w.heap.size, 0, none⟩)) (.int .i64 c)) rfl (hex2 _ (by kernel_rfl) _ rfl) (by kernel_rfl) ?_
  have hold : p.block < w.heap.size := by
    obtain ⟨b, i, sp⟩ := p
    unfold World.cell? at hc
    rcases Nat.lt_or_ge b w.heap.size with h | h
    · exact h
    · simp [Array.getElem?_eq_none h] at hc
  have hc' : (w.alloc (.cells #[.int .i64 c] 135)).cell? p = some (.int .i64 x) := by
    rw [World.cell?_of_block (w := w) (Go.RowKit.Below.heap_alloc w _ _ hold)]; exact hc
  have hz' : (w.alloc (.cells #[.int .i64 c] 135)).frozen? p = false := by
    rw [World.frozen?_of_block (w := w) (Go.RowKit.Below.heap_alloc w _ _ hold)]; exact hz
  have hst2 := st_code p c x _ hc' hz'
  have hex3 := fun (a : Act) (h1 : a.eval (.tmp 0) = .pointer (some p)) (h2 : a.eval (.tmp 10) = .int .i64 c) (o : Oper) (ho : o.op = .store 27 (.tmp 0) (.tmp 10)) =>
    (show (execOp a.eval o).run Try.prog (w.alloc (.cells #[.int .i64 c] 135)) = .ok .skip ((w.alloc (.cells #[.int .i64 c] 135)).setCell p (.int .i64 c)) by simp only [execOp, ho, h1, h2, Sem.run_bind, hst2, Result.andThen_ok]; rfl)
  refine .skip (a1 := A p (.pointer (some ⟨w.heap.size, 0, none⟩)) (.bool true) (.tuple #[.agg #[.int .i64 c], .bool true]) (.iface 135 (.agg #[.int .i64 c])) (.tuple #[.agg #[.int .i64 c], .bool true]) (.agg #[.int .i64 c]) (.bool true) (.bool true) (.pointer (some ⟨w.heap.size, 0, none⟩)) (.int .i64 c)) rfl (hex3 _ (by kernel_rfl) (by kernel_rfl) _ rfl) (by kernel_rfl) ?_
  exact .nil _ _ _
  refine ⟨rfl, _, rfl, .tuple #[], by kernel_rfl, rfl, rfl, rfl⟩

theorem catch_idle (p : Addr) (w : World) :
    CallsD Try.prog 88 #[.pointer (some p)] .returning w fun e u' w' => e = .returned (.tuple #[]) ∧ u' = .returning ∧ w' = w.alloc (.cells #[.int .i64 0] 135) := by
  refine callsD_of_wpS Try.func88 rfl fun c₀ cs hu => ?_
  apply wpS_seq
  refine wpS_runs (a' := A p (.pointer (some ⟨w.heap.size, 0, none⟩)) (.bool false) (.tuple #[.agg #[.int .i64 0], .bool false]) .nilIface (.tuple #[.agg #[.int .i64 0], .bool false]) (.agg #[.int .i64 0]) (.bool false) undef undef undef) (cs' := c₀ :: cs) (w' := w.alloc (.cells #[.int .i64 0] 135)) ?_ ?_
  refine .rec0 (a1 := A p undef undef undef .nilIface undef undef undef undef undef undef) (w1 := w) rfl (by kernel_rfl) (by simp only [recoverD, hu]) (by kernel_rfl) ?_
  refine .val (a1 := A p undef undef undef .nilIface (.tuple #[.agg #[.int .i64 0], .bool false]) undef undef undef undef undef) rfl (w1 := w) (v := .tuple #[.agg #[.int .i64 0], .bool false]) (by kernel_rfl) (by kernel_rfl) ?_
  refine .val (a1 := A p undef undef (.tuple #[.agg #[.int .i64 0], .bool false]) .nilIface (.tuple #[.agg #[.int .i64 0], .bool false]) undef undef undef undef undef) rfl (w1 := w) (v := .tuple #[.agg #[.int .i64 0], .bool false]) (by kernel_rfl) (by kernel_rfl) ?_
  refine .val (a1 := A p undef undef (.tuple #[.agg #[.int .i64 0], .bool false]) .nilIface (.tuple #[.agg #[.int .i64 0], .bool false]) (.agg #[.int .i64 0]) undef undef undef undef) rfl (w1 := w) (v := .agg #[.int .i64 0]) (by kernel_rfl) (by kernel_rfl) ?_
  refine .val (a1 := A p undef undef (.tuple #[.agg #[.int .i64 0], .bool false]) .nilIface (.tuple #[.agg #[.int .i64 0], .bool false]) (.agg #[.int .i64 0]) (.bool false) undef undef undef) rfl (w1 := w) (v := .bool false) (by kernel_rfl) (by kernel_rfl) ?_
  refine .val (a1 := A p (.pointer (some ⟨w.heap.size, 0, none⟩)) undef (.tuple #[.agg #[.int .i64 0], .bool false]) .nilIface (.tuple #[.agg #[.int .i64 0], .bool false]) (.agg #[.int .i64 0]) (.bool false) undef undef undef) rfl (w1 := w.alloc (.cells #[.int .i64 0] 135)) (v := .pointer (some ⟨w.heap.size, 0, none⟩)) (by kernel_rfl) (by kernel_rfl) ?_
  have hst := st_new 0 0 w
  have hex := fun (a : Act) (h1 : a.eval (.tmp 1) = .pointer (some ⟨w.heap.size, 0, none⟩)) (h2 : a.eval (.tmp 6) = .agg #[.int .i64 0]) (o : Oper) (ho : o.op = .store 135 (.tmp 1) (.tmp 6)) =>
    (show (execOp a.eval o).run Try.prog (w.alloc (.cells #[.int .i64 0] 135)) = .ok .skip (w.alloc (.cells #[.int .i64 0] 135)) by simp only [execOp, ho, h1, h2, Sem.run_bind, hst, Result.andThen_ok]; rfl)
  refine .skip (a1 := A p (.pointer (some ⟨w.heap.size, 0, none⟩)) undef (.tuple #[.agg #[.int .i64 0], .bool false]) .nilIface (.tuple #[.agg #[.int .i64 0], .bool false]) (.agg #[.int .i64 0]) (.bool false) undef undef undef) rfl (hex _ (by kernel_rfl) (by kernel_rfl) _ rfl) (by kernel_rfl) ?_
  refine .val (a1 := A p (.pointer (some ⟨w.heap.size, 0, none⟩)) (.bool false) (.tuple #[.agg #[.int .i64 0], .bool false]) .nilIface (.tuple #[.agg #[.int .i64 0], .bool false]) (.agg #[.int .i64 0]) (.bool false) undef undef undef) rfl (w1 := w.alloc (.cells #[.int .i64 0] 135)) (v := .bool false) (by kernel_rfl) (by kernel_rfl) ?_
  exact .nil _ _ _
  simp only [Exit.thenS]
  apply wpS_seq
  refine wpS_runs (a' := A p (.pointer (some ⟨w.heap.size, 0, none⟩)) (.bool false) (.tuple #[.agg #[.int .i64 0], .bool false]) .nilIface (.tuple #[.agg #[.int .i64 0], .bool false]) (.agg #[.int .i64 0]) (.bool false) (.bool false) undef undef) (cs' := c₀ :: cs) (w' := w.alloc (.cells #[.int .i64 0] 135)) ?_ ?_
  refine .val (a1 := A p (.pointer (some ⟨w.heap.size, 0, none⟩)) (.bool false) (.tuple #[.agg #[.int .i64 0], .bool false]) .nilIface (.tuple #[.agg #[.int .i64 0], .bool false]) (.agg #[.int .i64 0]) (.bool false) (.bool false) undef undef) rfl (w1 := w.alloc (.cells #[.int .i64 0] 135)) (v := .bool false) (by kernel_rfl) (by kernel_rfl) ?_
  exact .nil _ _ _
  simp only [Exit.thenS]
  refine wpS_cond (t := false) (by kernel_rfl) ?_
  simp only [Bool.false_eq_true, if_false]
  refine wpS_of_wp (wp_skip ?_)
  refine ⟨rfl, .returning, ?_, .tuple #[], by kernel_rfl, rfl, rfl, rfl⟩
  cases c₀
  simp_all
end Go.Proofs.Ythchjolcjicpgaa
