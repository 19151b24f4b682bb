/- A weakest precondition of the model's code over partial heaps, and that it is sound. -/
import Derived.Test.YthchjolcjicpgaaHeap
namespace Go.HW

abbrev Tm := Nat → Value

def put (n : Nat) (tm : Tm) (d : Option Nat) (v : Value) : Tm :=
  match d with
  | some d => if d < n then fun k => if k = d then v else tm k else tm
  | none => tm

def ev (tm : Tm) : Operand → Value
  | .tmp t => tm t
  | .const v => v
  | .global g => .pointer (some ⟨g, 0, none⟩)
  | .func f => .func (.func f) #[] #[]

structure Rl (n : Nat) (tm : Tm) (a : Act) : Prop where
  size : a.tmps.size = n
  get : ∀ k, a.tmps.getD k undef = tm k
  defers : a.defers = []

theorem Rl.eval {n : Nat} {tm : Tm} {a : Act} (r : Rl n tm a) : a.eval = ev tm := by
  funext x
  cases x with
  | tmp t => exact r.get t
  | const v => rfl
  | global g => rfl
  | func f => rfl

theorem Rl.put {n : Nat} {tm : Tm} {a : Act} (r : Rl n tm a) (d : Option Nat) (v : Value) : Rl n (put n tm d v) (a.put d v) := by
  cases d with
  | none => exact r
  | some d =>
    refine ⟨by simp [Act.put, r.size], fun k => ?_, r.defers⟩
    simp only [Act.put, HW.put]
    have hg := r.get k
    have hs := r.size
    simp only [Array.getD_eq_getD_getElem?, Array.getElem?_setIfInBounds] at hg ⊢
    by_cases hd : d < n
    · rw [if_pos hd]
      by_cases hk : d = k
      · subst hk; simp [hs, hd]
      · rw [if_neg hk]
        simp only [show ¬ k = d from fun h => hk h.symm, if_false]
        exact hg
    · rw [if_neg hd]
      by_cases hk : d = k
      · subst hk
        simp only [hs, hd, if_false, if_true]
        rw [← hg]
        simp [hs, hd]
      · rw [if_neg hk]; exact hg

def HCalls (P : Program) (f : FuncId) (args : Array Value) (h : Heap) (R : Ending → Heap → Prop) : Prop :=
  ∀ W0 w, Sat W0 w h → Calls P f args w fun e w' => ∃ h', Sat W0 w' h' ∧ R e h'

theorem HCalls.mono {P : Program} {f : FuncId} {args : Array Value} {h : Heap} {R R' : Ending → Heap → Prop} (c : HCalls P f args h R)
    (hr : ∀ e h', R e h' → R' e h') : HCalls P f args h R' :=
  fun W0 w s => (c W0 w s).mono fun e w' ⟨h', s', r⟩ => ⟨h', s', hr e h' r⟩

abbrev KT := Tm → Heap → Prop
abbrev QT := Exit → Tm → Heap → Prop

def onNext (P : Program) (n : Nat) (dst : Option Nat) (tm : Tm) (K : KT) (Q : QT) : Next → Heap → Prop
  | .value v, h => K (put n tm dst v) h
  | .skip, h => K (put n tm dst undef) h
  | .enter f args, h => HCalls P f args h fun
    | .returned v, h' => K (put n tm dst v) h'
    | .panicked ch, h' => Q (.panic ch) tm h'
    | .outgrown, _ => False
  | _, _ => False

def opG (P : Program) (n : Nat) (o : Oper) (tm : Tm) (K : KT) (Q : QT) (h : Heap) : Prop :=
  hwp P (execOp (ev tm) o) (onNext P n o.dst tm K Q) (fun v h => Q (.panic [{ v, recovered := false }]) tm h) h

def upK (W0 : World) (n : Nat) (K : KT) : Act → World → Prop := fun a w => ∃ tm h, Rl n tm a ∧ Sat W0 w h ∧ K tm h
def upQ (W0 : World) (n : Nat) (Q : QT) : Exit → Act → World → Prop := fun e a w => ∃ tm h, Rl n tm a ∧ Sat W0 w h ∧ Q e tm h
variable {W0 : World}

theorem opG_sound {P : Program} {n : Nat} {o : Oper} {tm : Tm} {K : KT} {Q : QT} {h : Heap} (H : opG P n o tm K Q h) {a : Act} {w : World} (r : Rl n tm a)
    (s : Sat W0 w h) : o.wp P a w (upK W0 n K) (upQ W0 n Q) := by
  unfold Oper.wp
  rw [r.eval]
  have := hwp_run P _ h w s H
  generalize (execOp (ev tm) o).run P w = res at this ⊢
  cases res with
  | ok x w' =>
    obtain ⟨h', s', H'⟩ := this
    cases x <;> simp only [onNext] at H' <;> first | exact H'.elim | skip
    case value v => exact ⟨_, _, r.put _ v, s', H'⟩
    case skip => exact ⟨_, _, r.put _ _, s', H'⟩
    case enter f args =>
      refine (H' _ w' s').mono fun e w'' ⟨h'', s'', R⟩ => ?_
      cases e with
      | returned v => exact ⟨_, _, r.put _ v, s'', R⟩
      | panicked ch => exact ⟨_, _, r, s'', R⟩
      | outgrown => exact R.elim
  | halt x w' =>
    obtain ⟨v, h', rfl, s', H'⟩ := this
    exact ⟨_, _, r, s', H'⟩

def wantedT (ops : List Oper) (o : Oper) (tm : Tm) : Bool :=
  match o.guard with
  | none => true
  | some (j, want) =>
    match (ops[j]?).bind (·.dst) with
    | some d => match tm d with
      | .bool b => b == want
      | _ => false
    | none => false

theorem wantedT_eq {ops : Array Oper} {o : Oper} {n : Nat} {tm : Tm} {a : Act} (r : Rl n tm a) : Region.wanted o (yielded ops a.tmps) = wantedT ops.toList o tm := by
  unfold Region.wanted wantedT
  cases o.guard with
  | none => rfl
  | some g =>
    obtain ⟨j, want⟩ := g
    simp only [yielded, Array.getElem?_toList]
    cases hd : (ops[j]?).bind (·.dst) with
    | none => simp
    | some d =>
      simp only [Option.bind_some]
      have hg := r.get d
      simp only [Array.getD_eq_getD_getElem?] at hg
      cases ht : a.tmps[d]? with
      | none =>
        rw [ht] at hg
        simp only [Option.getD_none] at hg
        rw [← hg]
        simp [undef]
      | some v =>
        rw [ht] at hg
        simp only [Option.getD_some] at hg
        rw [← hg]
        cases v <;> simp <;> rfl

/-- A test. -/
def ifV (v : Value) (A B : Prop) : Prop :=
  match v with
  | .bool true => A
  | .bool false => B
  | _ => False
theorem ifV_out {v : Value} {A B : Prop} (H : ifV v A B) : ∃ t, v = .bool t ∧ (t = true → A) ∧ (t = false → B) := by
  unfold ifV at H
  split at H
  · exact ⟨true, rfl, fun _ => H, fun h => absurd h (by simp)⟩
  · exact ⟨false, rfl, fun h => absurd h (by simp), fun _ => H⟩
  · exact H.elim
theorem ifV_mk {v : Value} {A B : Prop} {t : Bool} (e : v = .bool t) (h1 : t = true → A) (h2 : t = false → B) : ifV v A B := by
  subst e
  cases t with
  | true => exact h1 rfl
  | false => exact h2 rfl

/-- A Bool that guards other operations is looked at. -/
def splitB (n d : Nat) (K : KT) (tm : Tm) (h : Heap) : Prop := ifV (tm d) (K (put n tm (some d) (.bool true)) h) (K (put n tm (some d) (.bool false)) h)
theorem put_same {n d : Nat} {tm : Tm} {v : Value} (h : tm d = v) : put n tm (some d) v = tm := by
  funext k
  simp only [put]
  split
  · by_cases e : k = d
    · subst e; simp [h]
    · simp [e]
  · rfl
theorem splitB_out {n d : Nat} {K : KT} {tm : Tm} {h : Heap} (H : splitB n d K tm h) : K tm h := by
  obtain ⟨b, e, h1, h2⟩ := ifV_out H
  cases b with
  | true => have := h1 rfl; rwa [put_same e] at this
  | false => have := h2 rfl; rwa [put_same e] at this
theorem splitB_mono {n d : Nat} {K K' : KT} {tm : Tm} {h : Heap} (hk : ∀ v, K (put n tm (some d) v) h → K' (put n tm (some d) v) h) (H : splitB n d K tm h) : splitB n d K' tm h := by
  obtain ⟨b, e, h1, h2⟩ := ifV_out H
  exact ifV_mk e (fun hb => hk _ (h1 hb)) (fun hb => hk _ (h2 hb))
def isGuard (ops : List Oper) (k : Nat) : Bool := ops.any fun o => match o.guard with | some (j, _) => j == k | none => false
def seeB (n : Nat) (ops : List Oper) (k : Nat) (o : Oper) (K : KT) : KT := fun tm h =>
  if (isGuard ops k && wantedT ops o tm) = true then (match o.dst with | some d => splitB n d K tm h | none => K tm h) else K tm h
theorem seeB_out {n k : Nat} {ops : List Oper} {o : Oper} {K : KT} {tm : Tm} {h : Heap} (H : seeB n ops k o K tm h) : K tm h := by
  unfold seeB at H
  split at H
  · split at H
    · exact splitB_out H
    · exact H
  · exact H
theorem seeB_mono {n k : Nat} {ops : List Oper} {o : Oper} {K K' : KT} {tm : Tm} {h : Heap} (hk : K tm h → K' tm h) (hk' : ∀ d v, o.dst = some d → K (put n tm (some d) v) h → K' (put n tm (some d) v) h)
    (H : seeB n ops k o K tm h) : seeB n ops k o K' tm h := by
  unfold seeB at H ⊢
  split at H
  · next a =>
    rw [if_pos a]
    split at H
    · next d hd => exact splitB_mono (fun v => hk' d v hd) H
    · exact hk H
  · next a => rw [if_neg a]; exact hk H

/-- Operations in the order of the text; 'F': what is asked of one. -/
def opsW (F : Oper → Tm → KT → Heap → Prop) (n : Nat) (ops : List Oper) (K : KT) : Nat → List Oper → Tm → Heap → Prop
  | _, [], tm, h => K tm h
  | k, o :: rest, tm, h => if wantedT ops o tm = true then F o tm (seeB n ops k o (opsW F n ops K (k + 1) rest)) h else opsW F n ops K (k + 1) rest (put n tm o.dst undef) h

theorem opsW_list {P : Program} {n : Nat} {ops : Array Oper} {Q : QT} {F : Oper → Tm → KT → Heap → Prop} (hF : ∀ o tm K h, F o tm K h → opG P n o tm K Q h) (l : List Oper) :
    ∀ (k : Nat) (tm : Tm) (h : Heap), opsW F n ops.toList (Q .normal) k l tm h → ∀ a w, Rl n tm a → Sat W0 w h → wpList P ops (upQ W0 n Q) l a w := by
  induction l with
  | nil => exact fun k tm h H a w r s => ⟨tm, h, r, s, H⟩
  | cons o rest ih =>
    intro k tm h H a w r s
    refine wpList_step fun K hK => ?_
    rw [wantedT_eq r]
    simp only [opsW] at H
    by_cases hw : wantedT ops.toList o tm = true
    · rw [if_pos hw] at H ⊢
      have := opG_sound (hF _ _ _ _ H) r s
      unfold Oper.wp at this ⊢
      generalize (execOp a.eval o).run P w = res at this ⊢
      have up : ∀ a w, upK W0 n (seeB n ops.toList k o (opsW F n ops.toList (Q .normal) (k + 1) rest)) a w → K a w := fun a w ⟨tm', h', r', s', H'⟩ => hK _ _ (ih _ _ _ (seeB_out H') _ _ r' s')
      cases res with
      | ok x w' =>
        cases x <;> simp only [Oper.upon] at this ⊢
        case value v => exact up _ _ this
        case skip => exact up _ _ this
        case defer d => exact up _ _ this
        case enter f args =>
          refine this.mono fun e w'' R => ?_
          cases e with
          | returned v => exact up _ _ R
          | panicked ch => exact R
          | outgrown => exact R
        case row x y => exact this.mono fun _ _ R => up _ _ R
      | halt x w' => cases x <;> exact this
    · rw [if_neg hw] at H ⊢
      exact hK _ _ (ih _ _ _ H _ _ (r.put _ _) s)

/-- The slots that a piece of code writes. -/
def asg : Code → List Nat
  | .region _ ops _ => ops.toList.filterMap (·.dst)
  | .seq a b => asg a ++ asg b
  | .cond _ a b => asg a ++ asg b
  | .block _ c => asg c
  | .loop c => asg c
  | _ => []

/-- 'written' so far, and 'read' ahead of any write: by the text's order. -/
def ubO (o : Oper) (p : List Nat × List Nat) : List Nat × List Nat :=
  let rd := o.op.operands.toList.filterMap fun | .tmp t => if p.1.contains t || p.2.contains t then none else some t | _ => none
  (match o.dst with | some d => d :: p.1 | none => p.1, p.2 ++ rd.eraseDups)
def ub : Code → List Nat × List Nat → List Nat × List Nat
  | .region _ ops _, p => ops.toList.foldl (fun p o => ubO o p) p
  | .seq a b, p => ub b (ub a p)
  | .cond c a b, p =>
    let rd := match c with | .tmp t => if p.1.contains t || p.2.contains t then [] else [t] | _ => []
    let pa := ub a (p.1, p.2 ++ rd)
    let pb := ub b (p.1, pa.2)
    (pa.1.filter (pb.1.contains ·), pb.2)
  | .block _ c, p => (p.1, (ub c p).2)
  | .loop c, p => (p.1, (ub c p).2)
  | _, p => p
/-- The slots that a loop hands on from round to round. -/
def live (Z : List Nat) (c : Code) : List Nat := let w := asg c; (((ub c ([], [])).2 ++ Z).filter (w.contains ·)).eraseDups

def mix (A : List Nat) (X tm : Tm) : Tm := fun k => if A.contains k = true then X k else tm k

/-- The weakest precondition of code. 'F': of an operation; 'D': of a region that draws its order. -/
def hw (F : QT → Oper → Tm → KT → Heap → Prop) (D : QT → List Oper → Tm → Heap → Prop) (n : Nat) (Z : List Nat) : Code → QT → Tm → Heap → Prop
  | .skip, Q, tm, h => Q .normal tm h
  | .label _, Q, tm, h => Q .normal tm h
  | .exit id, Q, tm, h => Q (.exit id) tm h
  | .ret, Q, tm, h => Q .ret tm h
  | .region _ ops draw, Q, tm, h => if draw = true then D Q ops.toList tm h else opsW (F Q) n ops.toList (Q .normal) 0 ops.toList tm h
  | .seq a b, Q, tm, h => hw F D n Z a (fun e tm h => match e with | .normal => hw F D n Z b Q tm h | e => Q e tm h) tm h
  | .cond c a b, Q, tm, h => ifV (ev tm c) (hw F D n Z a Q tm h) (hw F D n Z b Q tm h)
  | .block id c, Q, tm, h => hw F D n Z c (fun e tm h => match e with | .exit id' => if id' = id then Q .normal tm h else Q (.exit id') tm h | e => Q e tm h) tm h
  | .loop c, Q, tm, h => ∃ I : Nat → List Value → Heap → Prop, (∃ m, I m ((live Z c).map tm) h) ∧
      ∀ m X h', I m ((live Z c).map X) h' → hw F D n Z c (fun e tm' h'' => match e with | .normal => ∃ m', m' < m ∧ I m' ((live Z c).map tm') h'' | e => Q e tm' h'')
        (mix (asg c) X tm) h'
  | _, _, _, _ => False

theorem wp_loop_ghost {P : Program} {c : Code} {Q : Exit → Act → World → Prop} {σ : Type} (I : Nat → σ → Act → World → Prop)
    (round : ∀ m x a w, I m x a w → c.wp P (Exit.then (fun a' w' => ∃ m', m' < m ∧ ∃ x', I m' x' a' w') Q) a w) :
    ∀ m x a w, I m x a w → (Code.loop c).wp P Q a w := by
  intro m x a w h₀ b k cs
  have key : ∀ n m x a w, m = n → I m x a w →
      ∃ e a' w', Q e a' w' ∧ Arrives P (lone (b.at a (.code c :: .inLoop c :: k)) cs w) b k cs e a' w' := by
    intro n
    induction n using Nat.strongRecOn with
    | _ n ih =>
      intro m x a w hn hI
      obtain ⟨e, a₁, w₁, hq, harr⟩ := round m x a w hI b (.inLoop c :: k) cs
      cases e with
      | normal =>
        obtain ⟨m', hlt, x', hI₁⟩ := hq
        obtain ⟨e₂, a₂, w₂, hq₂, harr₂⟩ := ih m' (hn ▸ hlt) m' x' a₁ w₁ rfl hI₁
        exact ⟨e₂, a₂, w₂, hq₂, .of_steps (Steps.trans harr (.one step_inLoop)) harr₂⟩
      | exit id => exact ⟨_, a₁, w₁, hq, .pass (x := .inLoop c) rfl (fun _ _ => .inl (by simp)) harr⟩
      | goto l => exact ⟨_, a₁, w₁, hq, .pass (x := .inLoop c) rfl (fun _ _ => .inl (by simp)) harr⟩
      | ret => exact ⟨_, a₁, w₁, hq, .pass (x := .inLoop c) rfl (fun _ _ => .inl (by simp)) harr⟩
      | panic ch => exact ⟨_, a₁, w₁, hq, .pass (x := .inLoop c) rfl (fun _ _ => .inl (by simp)) harr⟩
      | outgrown => exact ⟨_, a₁, w₁, hq, .pass (x := .inLoop c) rfl (fun _ _ => .inl (by simp)) harr⟩
  obtain ⟨e, a', w', hq, harr⟩ := key _ m x a w rfl h₀
  exact ⟨e, a', w', hq, .of_steps (.one step_loop) harr⟩

def Agr (A : List Nat) (tm tm' : Tm) : Prop := ∀ k, A.contains k = false → tm' k = tm k

theorem Agr.refl (A : List Nat) (tm : Tm) : Agr A tm tm := fun _ _ => rfl
theorem Agr.trans {A : List Nat} {a b c : Tm} (h : Agr A a b) (h' : Agr A b c) : Agr A a c := fun k hk => (h' k hk).trans (h k hk)
theorem Agr.mono {A B : List Nat} {a b : Tm} (h : Agr A a b) (hs : ∀ k, k ∈ A → k ∈ B) : Agr B a b := fun k hk => h k (by
  cases e : A.contains k with
  | false => rfl
  | true =>
    have := hs k (List.contains_iff_mem.1 e)
    rw [List.contains_iff_mem.2 this] at hk
    cases hk)
theorem Agr.put {A : List Nat} {n : Nat} {tm : Tm} {d : Option Nat} (v : Value) (hd : ∀ k, d = some k → k ∈ A) : Agr A tm (put n tm d v) := by
  intro k hk
  cases d with
  | none => rfl
  | some d =>
    simp only [HW.put]
    split
    · by_cases e : k = d
      · subst e
        rw [List.contains_iff_mem.2 (hd _ rfl)] at hk
        cases hk
      · simp [e]
    · rfl
theorem Agr.mix (A : List Nat) (X tm : Tm) : Agr A tm (mix A X tm) := by
  intro k hk
  unfold HW.mix
  rw [hk]
  rfl

def FM (n : Nat) (F : QT → Oper → Tm → KT → Heap → Prop) : Prop := ∀ (Q Q' : QT) (o : Oper) (tm : Tm) (K K' : KT) (h : Heap),
  (∀ v h, K (put n tm o.dst v) h → K' (put n tm o.dst v) h) → (∀ ch h, Q (.panic ch) tm h → Q' (.panic ch) tm h) → F Q o tm K h → F Q' o tm K' h
def DM (D : QT → List Oper → Tm → Heap → Prop) : Prop := ∀ (Q Q' : QT) (ops : List Oper) (tm : Tm) (h : Heap),
  (∀ e tm' h', Agr (ops.filterMap (·.dst)) tm tm' → Q e tm' h' → Q' e tm' h') → D Q ops tm h → D Q' ops tm h

theorem opsW_frame {n : Nat} {F : QT → Oper → Tm → KT → Heap → Prop} (hF : FM n F) {Q Q' : QT} (ops : List Oper) {K K' : KT} (A : List Nat) (l : List Oper) :
    ∀ (k : Nat) (tm : Tm) (h : Heap), (∀ o, o ∈ l → ∀ k, o.dst = some k → k ∈ A) → (∀ tm' h', Agr A tm tm' → K tm' h' → K' tm' h') → (∀ ch tm' h', Agr A tm tm' → Q (.panic ch) tm' h' → Q' (.panic ch) tm' h') →
      opsW (F Q) n ops K k l tm h → opsW (F Q') n ops K' k l tm h := by
  induction l with
  | nil => exact fun k tm h _ hK _ H => hK _ _ (.refl _ _) H
  | cons o rest ih =>
    intro k tm h hA hK hQ H
    have hd : ∀ v, Agr A tm (put n tm o.dst v) := fun v => .put v (hA o (.head _))
    have hr : ∀ o, o ∈ rest → ∀ k, o.dst = some k → k ∈ A := fun o ho => hA o (.tail _ ho)
    simp only [opsW] at H ⊢
    split at H
    · next hw =>
      rw [if_pos hw]
      have step : ∀ tm'' h', Agr A tm tm'' → opsW (F Q) n ops K (k + 1) rest tm'' h' → opsW (F Q') n ops K' (k + 1) rest tm'' h' := fun tm'' h' ag =>
        ih _ _ _ hr (fun tm' h' a => hK _ _ (ag.trans a)) (fun ch tm' h' a => hQ _ _ _ (ag.trans a))
      exact hF _ _ _ _ _ _ _ (fun v h' x => seeB_mono (step _ _ (hd v)) (fun d u hdd => step _ _ ((hd v).trans (.put u fun k hk => hA o (.head _) k (by rw [hdd]; exact hk)))) x) (fun ch h' => hQ _ _ _ (.refl _ _)) H
    · next hw =>
      rw [if_neg hw]
      exact ih _ _ _ hr (fun tm' h' a => hK _ _ ((hd _).trans a)) (fun ch tm' h' a => hQ _ _ _ ((hd _).trans a)) H

theorem hw_frame {n : Nat} {Z : List Nat} {F : QT → Oper → Tm → KT → Heap → Prop} {D : QT → List Oper → Tm → Heap → Prop} (hF : FM n F) (hD : DM D) (c : Code) :
    ∀ (Q Q' : QT) (tm : Tm) (h : Heap), (∀ e tm' h', Agr (asg c) tm tm' → Q e tm' h' → Q' e tm' h') → hw F D n Z c Q tm h → hw F D n Z c Q' tm h := by
  induction c with
  | skip => exact fun Q Q' tm h hQ H => hQ _ _ _ (.refl _ _) H
  | label l => exact fun Q Q' tm h hQ H => hQ _ _ _ (.refl _ _) H
  | exit id => exact fun Q Q' tm h hQ H => hQ _ _ _ (.refl _ _) H
  | ret => exact fun Q Q' tm h hQ H => hQ _ _ _ (.refl _ _) H
  | goto l => exact fun _ _ _ _ _ H => H.elim
  | refuse w => exact fun _ _ _ _ _ H => H.elim
  | scope c _ => exact fun _ _ _ _ _ H => H.elim
  | rangeFunc f ps a b _ _ => exact fun _ _ _ _ _ H => H.elim
  | region id ops draw =>
    intro Q Q' tm h hQ H
    simp only [hw] at H ⊢
    split at H
    · next hd => rw [if_pos hd]; exact hD _ _ _ _ _ hQ H
    · next hd =>
      rw [if_neg hd]
      exact opsW_frame hF _ (asg (.region id ops draw)) _ _ _ _ (fun o ho k hk => List.mem_filterMap.2 ⟨o, ho, hk⟩) (fun tm' h' a => hQ _ _ _ a) (fun ch tm' h' a => hQ _ _ _ a) H
  | seq a b iha ihb =>
    intro Q Q' tm h hQ H
    refine iha _ _ _ _ ?_ H
    intro e tm' h' ha
    have ha' : Agr (asg (.seq a b)) tm tm' := ha.mono fun k hk => List.mem_append.2 (.inl hk)
    cases e with
    | normal => exact ihb _ _ _ _ fun e tm'' h'' hb => hQ _ _ _ (ha'.trans (hb.mono fun k hk => List.mem_append.2 (.inr hk)))
    | _ => exact hQ _ _ _ ha'
  | cond c a b iha ihb =>
    intro Q Q' tm h hQ H
    simp only [hw] at H ⊢
    obtain ⟨t, e, h1, h2⟩ := ifV_out H
    exact ifV_mk e (fun ht => iha _ _ _ _ (fun e tm' h' a => hQ _ _ _ (a.mono fun k hk => List.mem_append.2 (.inl hk))) (h1 ht))
        (fun ht => ihb _ _ _ _ (fun e tm' h' a => hQ _ _ _ (a.mono fun k hk => List.mem_append.2 (.inr hk))) (h2 ht))
  | block id c ih =>
    intro Q Q' tm h hQ H
    refine ih _ _ _ _ ?_ H
    intro e tm' h' a
    cases e with
    | exit id' =>
      dsimp only
      split
      · exact hQ _ _ _ a
      · exact hQ _ _ _ a
    | _ => exact hQ _ _ _ a
  | loop c ih =>
    intro Q Q' tm h hQ ⟨I, h0, H⟩
    refine ⟨I, h0, fun m X h' hI => ih _ _ _ _ ?_ (H m X h' hI)⟩
    intro e tm' h'' a
    have a' : Agr (asg c) tm tm' := (Agr.mix _ _ _).trans a
    cases e with
    | normal => exact id
    | _ => exact hQ _ _ _ a'

theorem mix_self (A : List Nat) (tm tm' : Tm) (h : Agr A tm tm') : mix A tm' tm = tm' := by
  funext k
  unfold mix
  split
  · rfl
  · next hk => exact (h k (by simpa using hk)).symm

/-- Sound. -/
theorem hw_sound {P : Program} {n : Nat} {Z : List Nat} {F : QT → Oper → Tm → KT → Heap → Prop} {D : QT → List Oper → Tm → Heap → Prop} (hF : FM n F) (hD : DM D)
    (sF : ∀ Q o tm K h, F Q o tm K h → opG P n o tm K Q h)
    (sD : ∀ Q id (ops : Array Oper) tm h a w, D Q ops.toList tm h → Rl n tm a → Sat W0 w h → (Code.region id ops true).wp P (upQ W0 n Q) a w) (c : Code) :
    ∀ (Q : QT) (tm : Tm) (h : Heap) (a : Act) (w : World), hw F D n Z c Q tm h → Rl n tm a → Sat W0 w h → c.wp P (upQ W0 n Q) a w := by
  induction c with
  | skip => exact fun Q tm h a w H r s => wp_skip ⟨tm, h, r, s, H⟩
  | label l => exact fun Q tm h a w H r s => wp_label ⟨tm, h, r, s, H⟩
  | exit id => exact fun Q tm h a w H r s => wp_exit ⟨tm, h, r, s, H⟩
  | ret => exact fun Q tm h a w H r s => wp_ret ⟨tm, h, r, s, H⟩
  | goto l => exact fun _ _ _ _ _ H => H.elim
  | refuse w => exact fun _ _ _ _ _ H => H.elim
  | scope c _ => exact fun _ _ _ _ _ H => H.elim
  | rangeFunc f ps a b _ _ => exact fun _ _ _ _ _ H => H.elim
  | region id ops draw =>
    intro Q tm h a w H r s
    simp only [hw] at H
    cases draw with
    | true => rw [if_pos rfl] at H; exact sD _ _ _ _ _ _ _ H r s
    | false =>
      rw [if_neg (by simp)] at H
      exact wp_region_list (opsW_list (sF Q) _ _ _ _ H _ _ r s)
  | seq a b iha ihb =>
    intro Q tm h ac w H r s
    refine wp_seq (wp_mono (iha _ _ _ _ _ H r s) ?_)
    rintro e a' w' ⟨tm', h', r', s', H'⟩
    cases e with
    | normal => exact ihb _ _ _ _ _ H' r' s'
    | _ => exact ⟨tm', h', r', s', H'⟩
  | cond c a b iha ihb =>
    intro Q tm h ac w H r s
    simp only [hw] at H
    obtain ⟨t, h1, h2, h3⟩ := ifV_out H
    exact wp_cond_split (by rw [r.eval]; exact h1) (fun ht => iha _ _ _ _ _ (h2 ht) r s) (fun ht => ihb _ _ _ _ _ (h3 ht) r s)
  | block id c ih =>
    intro Q tm h a w H r s
    refine wp_block (wp_mono (ih _ _ _ _ _ H r s) ?_)
    rintro e a' w' ⟨tm', h', r', s', H'⟩
    cases e with
    | exit id' =>
      simp only [Exit.inBlock]
      dsimp only at H'
      split
      · next he => rw [if_pos he] at H'; exact ⟨tm', h', r', s', H'⟩
      · next he => rw [if_neg he] at H'; exact ⟨tm', h', r', s', H'⟩
    | _ => exact ⟨tm', h', r', s', H'⟩
  | loop c ih =>
    intro Q tm h a w ⟨I, ⟨m0, h0⟩, H⟩ r s
    refine wp_loop_ghost (σ := Unit) (fun m _ a w => ∃ X h', I m ((live Z c).map X) h' ∧ Rl n (mix (asg c) X tm) a ∧ Sat W0 w h') ?_ m0 () a w
      ⟨tm, h, h0, by rw [mix_self _ _ _ (.refl _ _)]; exact r, s⟩
    rintro m _ a w ⟨X, h', hI, r', s'⟩
    have H1 := hw_frame hF hD c _ (fun e tm' h'' => Agr (asg c) tm tm' ∧ (match e with
      | .normal => ∃ m', m' < m ∧ I m' ((live Z c).map tm') h''
      | e => Q e tm' h'')) _ _ (fun e tm' h'' ag q => ⟨(Agr.mix _ _ _).trans ag, q⟩) (H m X h' hI)
    refine wp_mono (ih _ _ _ _ _ H1 r' s') ?_
    rintro e a' w' ⟨tm', h'', r'', s'', ag, H'⟩
    cases e with
    | normal =>
      obtain ⟨m', hlt, hI'⟩ := H'
      exact ⟨m', hlt, (), tm', h'', hI', by rw [mix_self _ _ _ ag]; exact r'', s''⟩
    | _ => exact ⟨tm', h'', r'', s'', H'⟩

end Go.HW
