/- The contract of vouch.look. -/
import Derived.Test.YthchjolcjicpgaaCLook
namespace Go.Proofs.Ythchjolcjicpgaa
open Go.HW

section
variable {P : Program} {ops : Array Oper} {Q : Exit → Act → World → Prop} {rest : List Oper} {a a1 : Act} {w w1 : World} {o : Oper} {v : Value}
theorem L_val (hg : o.guard = none) (hr : (execOp a.eval o).run P w = .ok (.value v) w1) (ha : a.put o.dst v = a1) (h : wpList P ops Q rest a1 w1) : wpList P ops Q (o :: rest) a w := by
  refine wpList_step fun K hK => ?_
  simp only [Region.wanted, hg, if_true, Oper.wp, hr, Oper.upon]
  rw [ha]; exact hK _ _ h
theorem L_skip (hg : o.guard = none) (hr : (execOp a.eval o).run P w = .ok .skip w1) (ha : a.put o.dst undef = a1) (h : wpList P ops Q rest a1 w1) : wpList P ops Q (o :: rest) a w := by
  refine wpList_step fun K hK => ?_
  simp only [Region.wanted, hg, if_true, Oper.wp, hr, Oper.upon]
  rw [ha]; exact hK _ _ h
theorem L_defer {d : Deferred} (hg : o.guard = none) (hr : (execOp a.eval o).run P w = .ok (.defer d) w1) (ha : ({ a with defers := d :: a.defers } : Act).put o.dst undef = a1) (h : wpList P ops Q rest a1 w1) : wpList P ops Q (o :: rest) a w := by
  refine wpList_step fun K hK => ?_
  simp only [Region.wanted, hg, if_true, Oper.wp, hr, Oper.upon]
  rw [ha]; exact hK _ _ h
theorem L_enter {f : FuncId} {args : Array Value} (hg : o.guard = none) (hr : (execOp a.eval o).run P w = .ok (.enter f args) w1) (h : Calls P f args w1 fun
    | .returned v, w2 => wpList P ops Q rest (a.put o.dst v) w2
    | .panicked ch, w2 => Q (.panic ch) a w2
    | .outgrown, _ => False) : wpList P ops Q (o :: rest) a w := by
  refine wpList_step fun K hK => ?_
  simp only [Region.wanted, hg, if_true, Oper.wp, hr, Oper.upon]
  refine h.mono fun e w2 h => ?_
  cases e with
  | returned v => exact hK _ _ h
  | panicked ch => exact h
  | outgrown => exact h.elim
end

/-- The slots of look. -/
def B (f v2 v3 v4 v5 : Value) (d : List Deferred) : Act := ⟨#[f, undef, v2, v3, v4, v5], d⟩

theorem ld_code (p : Addr) (c : Int) (w : World) (hc : w.cell? p = some (.int .i64 c)) : (loadVar 27 p).run Try.prog w = .ok (.int .i64 c) w := by
  have h3 : (isAgg 27).run Try.prog w = .ok false w := by kernel_rfl
  simp only [loadVar, Sem.run_bind, h3, Result.andThen_ok]
  simp [load, Sem.run, hc]

theorem look_c {h : Heap} {k : FuncId} {cap : Array Value} {Q : Int → Heap → Prop} (en : entersB Try.prog k)
    (hc : ∀ r, h.fresh r → HCalls Try.prog k cap (h.new r #[.int .i64 0] 27) fun e h' => h'.info r = some (27, 1) ∧ h'.cell r 0 = some (.int .i64 0) ∧
      ∃ c, ((c = 0 ∧ ∃ v, e = .returned v) ∨ e = .panicked (refusal c)) ∧ ∀ h2, Le (h'.drop r) h2 → Q c h2) :
    HCalls Try.prog 45 #[.func (.func k) #[] cap] h fun e h' => ∃ c, e = .returned (.int .i64 c) ∧ Q c h' := by
  intro W0 w s
  obtain ⟨r, hr⟩ : ∃ r, r = w.heap.size := ⟨_, rfl⟩
  have fr : h.fresh r := by rw [hr]; exact s.fresh
  have s1 : Sat W0 (w.alloc (.cells #[.int .i64 0] 27)) (h.new r #[.int .i64 0] 27) := by rw [hr]; exact s.new _ _
  have ne : ∀ (h' : Heap) (x : Nat) (v : Value) (cs : Array Value) (t : TypeId) (hf : h'.fresh x), Le (h'.drop r) (((h'.new x cs t)).set r 0 v) := fun h' x v cs t hf =>
    (Le.set_fresh ((drop_le h' r).trans (Heap.le_new hf cs t)) (drop_fresh h' r) 0 v)
  refine calls_of_wp_defers Try.func45 rfl ?_
  refine wp_seq (wp_region_list ?_)
  refine L_val (a1 := B (.func (.func k) #[] cap) (.pointer (some ⟨r, 0, none⟩)) undef undef undef []) (w1 := w.alloc (.cells #[.int .i64 0] 27)) (v := .pointer (some ⟨r, 0, none⟩)) rfl (by rw [hr]; kernel_rfl) (by kernel_rfl) ?_
  refine wp_seq (wp_region_list ?_)
  refine L_val (a1 := B (.func (.func k) #[] cap) (.pointer (some ⟨r, 0, none⟩)) (.func (.func 88) #[] #[.pointer (some ⟨r, 0, none⟩)]) undef undef []) (w1 := w.alloc (.cells #[.int .i64 0] 27)) (v := .func (.func 88) #[] #[.pointer (some ⟨r, 0, none⟩)]) rfl (by kernel_rfl) (by kernel_rfl) ?_
  refine L_defer (d := { target := .fn (.func 88) #[.pointer (some ⟨r, 0, none⟩)], args := #[] }) (a1 := B (.func (.func k) #[] cap) (.pointer (some ⟨r, 0, none⟩)) (.func (.func 88) #[] #[.pointer (some ⟨r, 0, none⟩)]) undef undef [{ target := .fn (.func 88) #[.pointer (some ⟨r, 0, none⟩)], args := #[] }]) (w1 := w.alloc (.cells #[.int .i64 0] 27)) rfl (by kernel_rfl) (by kernel_rfl) ?_
  refine wp_seq (wp_region_list ?_)
  refine L_val (a1 := B (.func (.func k) #[] cap) (.pointer (some ⟨r, 0, none⟩)) (.func (.func 88) #[] #[.pointer (some ⟨r, 0, none⟩)]) (.func (.func k) #[] cap) undef [{ target := .fn (.func 88) #[.pointer (some ⟨r, 0, none⟩)], args := #[] }]) (w1 := w.alloc (.cells #[.int .i64 0] 27)) (v := .func (.func k) #[] cap) rfl (by kernel_rfl) (by kernel_rfl) ?_
  have hcall : (callFunc k (#[] ++ #[] ++ cap)).run Try.prog (w.alloc (.cells #[.int .i64 0] 27)) = .ok (.enter k cap) (w.alloc (.cells #[.int .i64 0] 27)) := by
    obtain ⟨fn, h1, h2, h3⟩ := en
    simp only [callFunc, Sem.run_bind, program, Sem.run, Result.andThen_ok, h1]
    rw [if_neg (by rw [h2]; simp), if_neg (by rw [h3]; simp)]
    simp [Sem.run]
  have hex := fun (a : Act) (h1 : a.eval (.tmp 4) = .func (.func k) #[] cap) (o : Oper) (ho : o.op = .call { callee := .value (.tmp 4), args := #[], argTypes := #[] }) =>
    (show (execOp a.eval o).run Try.prog (w.alloc (.cells #[.int .i64 0] 27)) = .ok (.enter k cap) (w.alloc (.cells #[.int .i64 0] 27)) by
      simp only [execOp, ho, resolve, h1, Deferred.ofValue, Sem.run_bind, Sem.run_pure, Result.andThen_ok, invoke, Array.map_empty]
      exact hcall)
  refine L_enter (f := k) (args := cap) (w1 := w.alloc (.cells #[.int .i64 0] 27)) rfl (hex _ (by kernel_rfl) _ rfl) ?_
  refine (hc r fr W0 _ s1).mono ?_
  rintro e w2 ⟨h2, s2, hi, hcell, c, hcase, hQ⟩
  have hold : r < w2.heap.size := by
    obtain ⟨cs, h1, _⟩ := s2.info _ _ _ hi
    exact (Array.getElem?_eq_some_iff.1 h1).1
  have hcw : w2.cell? ⟨r, 0, none⟩ = some (.int .i64 0) := s2.cell _ _ _ hcell
  have hzw : w2.frozen? ⟨r, 0, none⟩ = false := by
    obtain ⟨cs, h1, _⟩ := s2.info _ _ _ hi
    simp [World.frozen?, h1]
  have s2' := s2.set ⟨27, 1, hi, Nat.zero_lt_one⟩
  rcases hcase with ⟨rfl, v, rfl⟩ | rfl
  · refine wp_seq (wp_region_list ?_)
    have hex2 := fun (a : Act) (h1 : a.eval (.tmp 2) = .pointer (some ⟨r, 0, none⟩)) (o : Oper) (ho : o.op = .store 27 (.tmp 2) (.const (.int .i64 0))) =>
      (show (execOp a.eval o).run Try.prog w2 = .ok .skip (w2.setCell ⟨r, 0, none⟩ (.int .i64 0)) by
        simp only [execOp, ho, h1, Sem.run_bind]
        rw [show a.eval (.const (.int .i64 0)) = .int .i64 0 from rfl, st_code _ _ _ _ hcw hzw]
        rfl)
    refine L_skip (a1 := B (.func (.func k) #[] cap) (.pointer (some ⟨r, 0, none⟩)) (.func (.func 88) #[] #[.pointer (some ⟨r, 0, none⟩)]) (.func (.func k) #[] cap) v [{ target := .fn (.func 88) #[.pointer (some ⟨r, 0, none⟩)], args := #[] }]) rfl (hex2 _ (by kernel_rfl) _ rfl) (by kernel_rfl) ?_
    refine wp_ret ?_
    refine leaves_cons (f := 88) (args := #[.pointer (some ⟨r, 0, none⟩)]) (by simp) (by kernel_rfl) ?_
    refine (catch_idle ⟨r, 0, none⟩ _).mono ?_
    rintro e u' w3 ⟨rfl, rfl, rfl⟩
    have hld : (loadVar 27 ⟨r, 0, none⟩).run Try.prog ((w2.setCell ⟨r, 0, none⟩ (.int .i64 0)).alloc (.cells #[.int .i64 0] 135)) = .ok (.int .i64 0) ((w2.setCell ⟨r, 0, none⟩ (.int .i64 0)).alloc (.cells #[.int .i64 0] 135)) := by
      refine ld_code _ _ _ ?_
      have hb := (s2' (.int .i64 0)).cell r 0 (.int .i64 0) (by simp)
      rw [World.cell?_of_block (w := w2.setCell ⟨r, 0, none⟩ (.int .i64 0)) (Go.RowKit.Below.heap_alloc _ _ _ (by simpa [World.setCell] using hold))]
      exact hb
    refine ⟨.int .i64 0, ?_, _, (s2' (.int .i64 0)).new #[.int .i64 0] 135, 0, rfl, hQ _ ?_⟩
    · simp only [results, Try.results45, Array.mapM_eq_mapM_toList]
      simp [B, asAddr, hld]
    · exact (Le.set_fresh (drop_le h2 r) (drop_fresh h2 r) 0 _).trans (Heap.le_new (s2' (.int .i64 0)).fresh _ _)
  · refine leaves_cons (f := 88) (args := #[.pointer (some ⟨r, 0, none⟩)]) (by simp) (by kernel_rfl) ?_
    refine (catch_panicking ⟨r, 0, none⟩ 0 c _ hcw hzw).mono ?_
    rintro e u' w3 ⟨rfl, rfl, rfl⟩
    have sA := s2.new #[.int .i64 c] 135
    have hrw : r ≠ w2.heap.size := by omega
    have sB := sA.set (b := r) (i := 0) ⟨27, 1, by simpa [hrw] using hi, Nat.zero_lt_one⟩ (.int .i64 c)
    have hld : (loadVar 27 ⟨r, 0, none⟩).run Try.prog ((w2.alloc (.cells #[.int .i64 c] 135)).setCell ⟨r, 0, none⟩ (.int .i64 c)) = .ok (.int .i64 c) ((w2.alloc (.cells #[.int .i64 c] 135)).setCell ⟨r, 0, none⟩ (.int .i64 c)) :=
      ld_code _ _ _ (sB.cell r 0 (.int .i64 c) (by simp))
    refine ⟨.int .i64 c, ?_, _, sB, c, rfl, hQ _ (ne _ _ _ _ _ s2.fresh)⟩
    simp only [results, Try.results45, Array.mapM_eq_mapM_toList]
    simp [B, asAddr, hld]

end Go.Proofs.Ythchjolcjicpgaa
