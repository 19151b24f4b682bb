/- A function's contract out of its body's precondition. -/
import Derived.Test.YthchjolcjicpgaaDraw
namespace Go.HW

def tm0 (args : List Value) : Tm := fun k => args.getD k undef

/-- The values of the result variables. -/
def resL (T : TT) (tm : Tm) (h : Heap) : List ResultVar → Option (List Value)
  | [] => some []
  | .tmp t :: r => (resL T tm h r).map (tm t :: ·)
  | .cell a t :: r => match ldV T t (tm a) h, resL T tm h r with
    | some v, some l => some (v :: l)
    | _, _ => none
/-- The same, one after the other. -/
def resF (T : TT) (tm : Tm) (h : Heap) : List ResultVar → (List Value → Prop) → Prop
  | [], K => K []
  | .tmp t :: r, K => resF T tm h r fun l => K (tm t :: l)
  | .cell a t :: r, K => PV (ldV T t (tm a) h) fun v => resF T tm h r fun l => K (v :: l)
theorem resF_out {T : TT} {tm : Tm} {h : Heap} (rs : List ResultVar) : ∀ {K : List Value → Prop}, resF T tm h rs K → PV (resL T tm h rs) K := by
  induction rs with
  | nil => exact fun H => H
  | cons r rs ih =>
    intro K H
    cases r with
    | tmp t =>
      obtain ⟨l, e, k⟩ := PV.out (ih H)
      simp only [resL, e]
      exact k
    | cell a t =>
      obtain ⟨v, e, H⟩ := PV.out H
      obtain ⟨l, e', k⟩ := PV.out (ih H)
      simp only [resL, e, e']
      exact k
def packV : List Value → Value
  | [v] => v
  | l => .tuple l.toArray

def postF (T : TT) (rs : List ResultVar) (R : Ending → Heap → Prop) : QT := fun e tm h => match e with
  | .normal | .ret => resF T tm h rs fun l => R (.returned (packV l)) h
  | .panic ch => R (.panicked ch) h
  | _ => False

section
variable {P : Program} {T : TT}

theorem run_loadCells {h : Heap} {w : World} (s : Sat0 w h) {a : Addr} (n : Nat) : ∀ (i : Nat) (acc : Array Value) (l : List Value), cellsL h a i n = some l → (loadCellsFrom a i n acc).run P w = .ok (acc ++ l.toArray) w := by
  induction n with
  | zero => intro i acc l e; cases e; simp [loadCellsFrom]
  | succ n ih =>
    intro i acc l e
    simp only [cellsL] at e
    split at e
    · next v l' h1 h2 =>
      cases e
      have hc : w.cell? (a.add i) = some v := by
        unfold Heap.at at h1
        split at h1
        · cases h1
        · next hs =>
          have := s.cell _ _ _ h1
          have he : (a.add i) = ⟨(a.add i).block, (a.add i).off, none⟩ := by
            generalize a.add i = b at hs
            obtain ⟨x, y, z⟩ := b
            cases z <;> simp at hs ⊢
          rw [he]; exact this
      simp only [loadCellsFrom, Sem.run_bind, load, Sem.run, hc, Result.andThen_ok]
      rw [ih _ _ _ h2]
      simp
    · cases e

theorem run_loadVar (hT : TOK P T) {h : Heap} {w : World} (s : Sat0 w h) {t : TypeId} {a : Addr} {v : Value} (e : ldV T t (.pointer (some a)) h = some v) : (loadVar t a).run P w = .ok v w := by
  unfold ldV at e
  split at e
  case h_2 => cases e
  next ti a' ht hx =>
  cases hx
  obtain ⟨hd, i, z, hi, hs, _⟩ := hT _ _ ht
  have hu : (underlying t).run P w = .ok ti.desc w := by simp [underlying, program, hd, Sem.run]
  have hagg : (isAgg t).run P w = .ok (aggD ti.desc) w := by
    simp only [isAgg, Sem.run_bind, hu, Result.andThen_ok]
    cases ti.desc <;> simp [aggD]
  simp only [loadVar, Sem.run_bind, hagg, Result.andThen_ok]
  split at e
  · next ha =>
    rw [if_pos ha]
    cases hc : cellsL h a 0 ti.size with
    | none => rw [hc] at e; cases e
    | some l =>
      rw [hc] at e
      simp only [Option.map_some, Option.some.injEq] at e
      subst e
      have hz : (sizeOf t).run P w = .ok ti.size w := by simp [sizeOf, typeInfo, program, hi, hs, Sem.run]
      simp only [Sem.run_bind, hz, Result.andThen_ok, loadCells, run_loadCells s _ _ _ _ hc]
      simp
  · next ha =>
    rw [if_neg ha]
    unfold Heap.at at e
    split at e
    · cases e
    · next hs =>
      have := s.cell _ _ _ e
      have he : a = ⟨a.block, a.off, none⟩ := by
        obtain ⟨x, y, z⟩ := a
        cases z <;> simp at hs ⊢
      rw [← he] at this
      simp [load, Sem.run, this]

def rdR (tmps : Array Value) : ResultVar → Sem Value
  | .tmp t => pure (tmps.getD t undef)
  | .cell a t => do loadVar t (← asAddr (tmps.getD a undef))

theorem run_resL (hT : TOK P T) {h : Heap} {w : World} (s : Sat0 w h) {tm : Tm} {tmps : Array Value} (hg : ∀ k, tmps.getD k undef = tm k) (rs : List ResultVar) : ∀ (l : List Value), resL T tm h rs = some l →
    (rs.mapM (rdR tmps)).run P w = .ok l w := by
  induction rs with
  | nil => intro l e; cases e; simp
  | cons r rs ih =>
    intro l e
    cases r with
    | tmp t =>
      simp only [resL] at e
      cases hr : resL T tm h rs with
      | none => rw [hr] at e; cases e
      | some l' =>
        rw [hr] at e
        cases e
        simp only [List.mapM_cons, rdR, Sem.run_bind, Sem.run_pure, Result.andThen_ok]
        rw [ih _ hr]
        simp [hg]
    | cell a t =>
      simp only [resL] at e
      split at e
      · next v l' h1 h2 =>
        cases e
        have h1' := h1
        unfold ldV at h1
        split at h1
        case h_2 => cases h1
        next ti ad ht hx =>
        rw [hx] at h1'
        simp only [List.mapM_cons, rdR, Sem.run_bind, hg, hx, asAddr, Sem.run_pure, Result.andThen_ok, run_loadVar hT s h1']
        rw [ih _ h2]
        simp
      · cases e

theorem run_results (hT : TOK P T) {h : Heap} {w : World} (s : Sat0 w h) {tm : Tm} {tmps : Array Value} (hg : ∀ k, tmps.getD k undef = tm k) (fn : Func) (l : List Value) (e : resL T tm h fn.results.toList = some l) :
    (results fn tmps).run P w = .ok (packV l) w := by
  unfold results
  rw [Array.mapM_eq_mapM_toList]
  have h1 := run_resL hT s hg _ _ e
  have h2 : (fun (x : ResultVar) => match x with
      | .tmp t => (pure (tmps.getD t undef) : Sem Value)
      | .cell a t => do loadVar t (← asAddr (tmps.getD a undef))) = rdR tmps := by
    funext x; cases x <;> rfl
  change (((fn.results.toList.mapM (fun (x : ResultVar) => match x with
      | .tmp t => (pure (tmps.getD t undef) : Sem Value)
      | .cell a t => do loadVar t (← asAddr (tmps.getD a undef)))) >>= fun l => pure l.toArray) >>= fun vs => pure (if h : vs.size = 1 then vs[0] else .tuple vs)).run P w = _
  rw [h2]
  simp only [Sem.run_bind, h1, Result.andThen_ok, Sem.run_pure]
  match l with
  | [] => rfl
  | [v] => rfl
  | a :: b :: c => simp [packV]

theorem tm0_rl {n : Nat} (args : List Value) (hn : args.length ≤ n) : Rl n (tm0 args) { tmps := args.toArray ++ Array.replicate (n - args.toArray.size) undef, defers := [] } := by
  refine ⟨by simp; omega, fun k => ?_, rfl⟩
  simp only [tm0, Array.getD_eq_getD_getElem?, List.getD_eq_getElem?_getD]
  rcases Nat.lt_or_ge k args.length with h | h
  · rw [Array.getElem?_append_left (by simpa using h)]; simp
  · rw [Array.getElem?_append_right (by simpa using h), List.getElem?_eq_none h]
    simp only [Array.getElem?_replicate]
    split <;> rfl

theorem hcalls (hT : TOK P T) (hm : P.follows .mixedOrders = true) {f : FuncId} {fn : Func} {c : Code} (hf : P.funcs[f]? = some fn) (hb : fn.body = some c) {n : Nat} {Z : List Nat} {rs : List ResultVar} (hn : fn.ntmps = n) (hrs : fn.results.toList = rs)
    {args : List Value} (ha : args.length ≤ n) {h : Heap} {R : Ending → Heap → Prop} (H : hw (opF P T n) (drawF P T n) n Z c (postF T rs R) (tm0 args) h) : HCalls P f args.toArray h R := by
  intro W0 w s
  refine calls_of_wp hf hb ?_
  subst hn
  refine wp_mono (hw_sound (opF_FM P T _) (drawF_DM P T _) (fun Q o tm K h H => opF_sound hT H) (fun Q id ops tm h a w H r s => drawF_sound hT hm H r s) c _ _ _ _ _ H (tm0_rl args ha) s) ?_
  rintro e a w' ⟨tm, h', r, s', H'⟩
  cases e with
  | normal => obtain ⟨l, e, R⟩ := PV.out (resF_out _ H'); exact ⟨r.defers, _, run_results hT s'.toSat0 r.get fn l (by rw [hrs]; exact e), h', s', R⟩
  | ret => obtain ⟨l, e, R⟩ := PV.out (resF_out _ H'); exact ⟨r.defers, _, run_results hT s'.toSat0 r.get fn l (by rw [hrs]; exact e), h', s', R⟩
  | panic ch => exact ⟨r.defers, h', s', H'⟩
  | exit id => exact H'.elim
  | goto l => exact H'.elim
  | outgrown => exact H'.elim

end
/-- What follows where ways meet, said once. -/
def JN {β : Type} (k : β) (b : β → Prop) : Prop := b k
theorem JN.mk {β : Type} {k : β} {b : β → Prop} (H : ∀ J, J = k → b J) : JN k b := H k rfl

end Go.HW
