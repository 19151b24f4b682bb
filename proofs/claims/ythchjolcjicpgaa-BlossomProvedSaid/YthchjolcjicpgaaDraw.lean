/- Regions whose order Go leaves open: one walk in the text's order serves every order. -/
import Derived.Test.YthchjolcjicpgaaSound2
import Derived.Orders
namespace Go.HW

/-- What each operation comes after, at one remove or more, as a number's bits. -/
def closGo : List Oper → List Nat → List Nat
  | [], acc => acc
  | o :: r, acc => closGo r (acc ++ [o.after.toList.foldl (fun s e => if Region.binds .any e = true then s ||| (1 <<< e.on) ||| acc.getD e.on 0 else s) 0])
def clos (ops : List Oper) : List Nat := closGo ops []

def looks (ops : List Oper) (o : Oper) : List Tmp :=
  (o.op.operands.toList.filterMap fun | .tmp t => some t | _ => none) ++
  (match o.guard with
   | some (g, _) => ((ops[g]?).bind (·.dst)).toList
   | none => [])

def apartT (ops : List Oper) (x y : Oper) : Bool :=
  (match x.dst with
   | some d => !(looks ops y).contains d && y.dst != some d
   | none => true) &&
  (match y.dst with
   | some d => !(looks ops x).contains d
   | none => true)

def isSt : Op → Bool
  | .store .. => true
  | _ => false
/-- Yields the same whatever memory holds. -/
def hpB (op : Op) : Bool := isPure op && (match op with | .load .. => false | _ => true)

def pairOK (ops : List Oper) (x y : Oper) : Bool :=
  apartT ops x y && (isPure x.op || isPure y.op || (((isAl x.op && isAl y.op) || (isAl x.op && isSt y.op) || (isSt x.op && isAl y.op)) && x.guard.isNone && y.guard.isNone))

/-- Ordered towards all others (a write: towards all whose answer hangs on memory). -/
def isoB (ops : List Oper) (k : Nat) : Bool :=
  (List.range ops.length).all fun j => j == k || ((match ops[k]? with | some o => isSt o.op | none => false) && (match ops[j]? with | some o => hpB o.op | none => false)) || if j < k then ((clos ops).getD k 0).testBit j else ((clos ops).getD j 0).testBit k

def drawB (ops : List Oper) : Bool :=
  (List.range ops.length).all fun k =>
    match ops[k]? with
    | none => false
    | some ok =>
      (ok.after.toList.all fun e => !Region.binds .any e || decide (e.on < k)) &&
      (List.range ops.length).all fun j => decide (j ≤ k) || ((clos ops).getD j 0).testBit k || match ops[j]? with
        | some oj => pairOK ops ok oj
        | none => false

def Cons (h : Heap) : Prop := ∃ W0 w, Sat W0 w h

abbrev K3 := Heap → Tm → Heap → Prop

def stV' (T : TT) (ops : List Oper) (o : Oper) (h0 : Heap) (tm : Tm) : Option Value := if wantedT ops o tm = true then pureV T tm h0 o.op else some undef

/-- One operation of such a region: it reads from the heap 'h0'; 'iso': it is ordered towards all others. -/
def dOp (P : Program) (T : TT) (n : Nat) (Q : QT) (ops : List Oper) (iso : Bool) (o : Oper) (K : K3) (h0 : Heap) (tm : Tm) (h : Heap) : Prop :=
  if wantedT ops o tm = false then K h0 (put n tm o.dst undef) h
  else if isPure o.op = true then PVm (isMv o.op) (pureV T tm h0 o.op) fun v => K h0 (put n tm o.dst v) h
  else if isAl o.op = true then alF (alV T tm o.op) h fun v h' => K h0 (put n tm o.dst v) h'
  else if iso = true then effF P T n Q o tm (fun v h' => Cons h' → K h' (put n tm o.dst v) h') h o.op
  else effF P T n (fun _ _ _ => False) o tm (fun v h' => Le h h' ∧ (Cons h' → K h0 (put n tm o.dst v) h')) h o.op

def seeD (n : Nat) (ops : List Oper) (k : Nat) (o : Oper) (K : K3) : K3 := fun h0 tm h => seeB n ops k o (fun tm h => K h0 tm h) tm h

def opsD (P : Program) (T : TT) (n : Nat) (Q : QT) (ops : List Oper) : Nat → List Oper → K3
  | _, [] => fun _ tm h => Q .normal tm h
  | k, o :: rest => dOp P T n Q ops (isoB ops k) o (seeD n ops k o (opsD P T n Q ops (k + 1) rest))

def drawF (P : Program) (T : TT) (n : Nat) (Q : QT) (ops : List Oper) (tm : Tm) (h : Heap) : Prop := if drawB ops = true then opsD P T n Q ops 0 ops h tm h else False

section
variable {P : Program} {T : TT} {n : Nat} {Q : QT} {ops : Array Oper}

theorem cons_new {h : Heap} (c : Cons h) {r : Nat} (hr : h.fresh r) (cs : Array Value) (t : TypeId) : Cons (h.new r cs t) := by
  obtain ⟨W0, w, s⟩ := c
  let hp : Array Obj := (w.heap ++ Array.replicate (r + 1) (Obj.view ⟨0, 0, none⟩ 0)).setIfInBounds r (.cells cs t)
  refine ⟨{ w with heap := #[] }, { w with heap := hp }, ⟨?_, ?_⟩, fun _ _ _ => Nat.zero_le _, fun i hi => absurd hi (by simp), Nat.zero_le _, rfl, rfl, rfl⟩
  · intro b i v e
    simp only [Heap.new] at e
    split at e
    · next hb =>
      subst hb
      have : hp[b]? = some (.cells cs t) := by simp [hp, Array.getElem?_setIfInBounds]; omega
      simp [World.cell?, this, e]
    · next hb =>
      have h1 := s.cell _ _ _ e
      have h2 := cell?_lt h1
      have : hp[b]? = w.heap[b]? := by
        simp only [hp]
        rw [Array.getElem?_setIfInBounds_ne (by omega), Array.getElem?_append_left h2]
      simpa [World.cell?, this] using h1
  · intro b t' n e
    simp only [Heap.new] at e
    split at e
    · next hb =>
      subst hb
      simp only [Option.some.injEq, Prod.mk.injEq] at e
      obtain ⟨rfl, rfl⟩ := e
      exact ⟨cs, by simp [hp, Array.getElem?_setIfInBounds]; omega, rfl⟩
    · next hb =>
      obtain ⟨c', hc, hn⟩ := s.info _ _ _ e
      have h2 := (Array.getElem?_eq_some_iff.1 hc).1
      refine ⟨c', ?_, hn⟩
      have : hp[b]? = w.heap[b]? := by
        simp only [hp]
        rw [Array.getElem?_setIfInBounds_ne (by omega), Array.getElem?_append_left h2]
      rw [this]
      exact hc

theorem dOp_eq {l : List Oper} {iso : Bool} {o : Oper} {K : K3} {h0 : Heap} {tm : Tm} {h : Heap} : dOp P T n Q l iso o K h0 tm h =
  (if wantedT l o tm = false then K h0 (put n tm o.dst undef) h
  else if isPure o.op = true then PV (pureV T tm h0 o.op) fun v => K h0 (put n tm o.dst v) h
  else if isAl o.op = true then alF (alV T tm o.op) h fun v h' => K h0 (put n tm o.dst v) h'
  else if iso = true then effF P T n Q o tm (fun v h' => Cons h' → K h' (put n tm o.dst v) h') h o.op
  else effF P T n (fun _ _ _ => False) o tm (fun v h' => Le h h' ∧ (Cons h' → K h0 (put n tm o.dst v) h')) h o.op) := by unfold dOp; rw [PVm_eq]

theorem dOp_mono {iso : Bool} {o : Oper} {K K' : K3} {h0 : Heap} {tm : Tm} {h : Heap} {l : List Oper} (c : Cons h) (hle : Le h0 h) (hk : ∀ h0 tm h, Cons h → Le h0 h → K h0 tm h → K' h0 tm h)
    (H : dOp P T n Q l iso o K h0 tm h) : dOp P T n Q l iso o K' h0 tm h := by
  rw [dOp_eq] at H ⊢
  split at H
  · next a => rw [if_pos a]; exact hk _ _ _ c hle H
  · next a =>
    rw [if_neg a]
    split at H
    · next a => rw [if_pos a]; exact PV.mono H fun _ => hk _ _ _ c hle
    · next a =>
      rw [if_neg a]
      split at H
      · next a => rw [if_pos a]; exact PV.mono H fun _ x r hr => hk _ _ _ (cons_new c hr _ _) (hle.trans (Heap.le_new hr _ _)) (x r hr)
      · next a =>
        rw [if_neg a]
        split at H
        · next a => rw [if_pos a]; exact effF_mono (fun _ _ x c => hk _ _ _ c (.refl _) (x c)) (fun _ _ => id) H
        · next a => rw [if_neg a]; exact effF_mono (fun _ _ x => ⟨x.1, fun c => hk _ _ _ c (hle.trans x.1) (x.2 c)⟩) (fun _ _ => id) H

/-- Any order. -/
def hAny (P : Program) (T : TT) (n : Nat) (Q : QT) (ops : Array Oper) : Nat → Array Bool → K3
  | 0, listed => fun _ tm h => Region.ready .any ops listed = [] ∧ Q .normal tm h
  | fuel + 1, listed => fun h0 tm h => (Region.ready .any ops listed = [] → Q .normal tm h) ∧
      ∀ i ∈ Region.ready .any ops listed, match ops[i]? with
        | none => False
        | some o => dOp P T n Q ops.toList (isoB ops.toList i) o (hAny P T n Q ops fuel (listed.setIfInBounds i true)) h0 tm h

theorem cellsL_mono {h h' : Heap} (l : Le h h') {a : Addr} (m : Nat) : ∀ (i : Nat) (vs : List Value), cellsL h a i m = some vs → cellsL h' a i m = some vs := by
  have at_ : ∀ a v, h.at a = some v → h'.at a = some v := by
    intro a v e
    unfold Heap.at at e ⊢
    split at e
    · cases e
    · next hs => rw [if_neg hs]; exact l.cell _ _ _ e
  induction m with
  | zero => intro i vs e; exact e
  | succ m ih =>
    intro i vs e
    simp only [cellsL] at e ⊢
    split at e
    · next v l' h1 h2 => rw [at_ _ _ h1, ih _ _ h2]; exact e
    · cases e

theorem ldV_mono {h h' : Heap} (l : Le h h') {t : TypeId} {x v : Value} (e : ldV T t x h = some v) : ldV T t x h' = some v := by
  unfold ldV at e ⊢
  split at e
  · next ti a ht =>
    split at e
    · next ha =>
      cases hc : cellsL h a 0 ti.size with
      | none => rw [hc] at e; cases e
      | some vs =>
        rw [hc] at e
        simp only [if_pos ha, cellsL_mono l _ _ _ hc]
        exact e
    · next ha =>
      simp only [if_neg ha]
      unfold Heap.at at e ⊢
      split at e
      · cases e
      · next hs => rw [if_neg hs]; exact l.cell _ _ _ e
  · cases e

theorem pureV_mono {h h' : Heap} (l : Le h h') {tm : Tm} {op : Op} {v : Value} (e : pureV T tm h op = some v) : pureV T tm h' op = some v := by
  cases op <;> first | exact e | exact ldV_mono l e

/-- Each outcome keeps what was read from. -/
theorem dOp_sound (hT : TOK P T) {iso : Bool} {o : Oper} {K : K3} {h0 : Heap} {tm : Tm} {h : Heap} (hle : Le h0 h) (H : dOp P T n Q ops.toList iso o K h0 tm h) :
    if wantedT ops.toList o tm = true then opG P n o tm (fun tm' h' => Cons h' → ∃ h0', Le h0' h' ∧ K h0' tm' h') Q h else ∃ h0', Le h0' h ∧ K h0' (put n tm o.dst undef) h := by
  rw [dOp_eq] at H
  split at H
  · next a => rw [if_neg (by rw [a]; simp)]; exact ⟨h0, hle, H⟩
  · next a =>
    rw [if_pos (by simpa using a)]
    refine opF_sound hT ?_
    unfold opF
    split at H
    · next a =>
      rw [if_pos a, PVm_eq]
      obtain ⟨v, e, k⟩ := PV.out H
      exact PV.mk (pureV_mono hle e) fun _ => ⟨h0, hle, k⟩
    · next a =>
      rw [if_neg a]
      split at H
      · next a => rw [if_pos a]; exact PV.mono H fun _ x r hr _ => ⟨h0, hle.trans (Heap.le_new hr _ _), x r hr⟩
      · next a =>
        rw [if_neg a]
        split at H
        · next a => exact effF_mono (fun _ h' x c => ⟨h', .refl _, x c⟩) (fun _ _ => id) H
        · next a => exact effF_mono (fun _ h' x c => ⟨h0, hle.trans x.1, x.2 c⟩) (fun _ _ x => x.elim) H

theorem hAny_sound (hT : TOK P T) {W0 : World} : ∀ (fuel : Nat) (listed : Array Bool) (h0 : Heap) (tm : Tm) (h : Heap), hAny P T n Q ops fuel listed h0 tm h → Le h0 h → ∀ a w, Rl n tm a → Sat W0 w h →
    wpAny P .any ops (upQ W0 n Q) fuel listed a w := by
  intro fuel
  induction fuel with
  | zero => exact fun listed h0 tm h H _ a w r s => ⟨H.1, tm, h, r, s, H.2⟩
  | succ fuel ih =>
    intro listed h0 tm h H hle a w r s
    refine ⟨fun h' => ⟨tm, h, r, s, H.1 h'⟩, fun i hi => ?_⟩
    have H2 := H.2 i hi
    unfold wpOp
    cases ho : ops[i]? with
    | none => rw [ho] at H2; exact H2.elim
    | some o =>
      rw [ho] at H2
      have H3 := dOp_sound hT hle H2
      simp only
      rw [wantedT_eq r]
      split at H3
      · next hw =>
        rw [if_pos hw]
        refine .inl (Oper.wp_mono ?_ (opG_sound H3 r s))
        rintro a' w' ⟨tm', h', r', s', K⟩
        obtain ⟨h0', l', K⟩ := K ⟨_, w', s'⟩
        exact ih _ _ _ _ K l' _ _ r' s'
      · next hw =>
        rw [if_neg hw]
        obtain ⟨h0', l', K⟩ := H3
        exact ih _ _ _ _ K l' _ _ (r.put _ _) s

theorem pureV_congr {tm tm' : Tm} {op : Op} (h : Heap) (e : ∀ x ∈ op.operands, ev tm x = ev tm' x) : pureV T tm h op = pureV T tm' h op := by
  cases op <;> simp only [pureV] <;> simp only [Op.operands] at e
  case pick c a b => rw [e c (by simp), e a (by simp), e b (by simp)]
  case build t ps =>
    congr 1
    refine Array.map_congr_left fun x hx => ?_
    rw [e x.2 (by simp only [List.mem_toArray, List.mem_map]; exact ⟨x, by simpa using hx, rfl⟩)]
  case makeFunc fn a b =>
    rw [Array.map_congr_left (fun x hx => e x (by simp [hx])), Array.map_congr_left (xs := b) (fun x hx => e x (by simp [hx]))]
  case slice t x lo hi mx =>
    rw [e x (by simp)]
    congr 1
    · cases lo with
      | none => rfl
      | some y => simp only [Option.map_some]; rw [e y (by simp)]
    · cases hi with
      | none => rfl
      | some y => simp only [Option.map_some]; rw [e y (by simp)]
    · cases mx with
      | none => rfl
      | some y => simp only [Option.map_some]; rw [e y (by simp)]
  case call c =>
    obtain ⟨callee, args, ts⟩ := c
    unfold pureC
    split
    · next x t h1 => cases h1; rw [e x (by simp [Call.operands])]
    · next x y ts h1 => cases h1; rw [e x (by simp [Call.operands]), e y (by simp [Call.operands])]
    · next x y ts h1 => cases h1; rw [e x (by simp [Call.operands]), e y (by simp [Call.operands])]
    · rfl
  all_goals first
    | rfl
    | (rw [e _ (by simp)]; done)
    | (rw [e _ (List.mem_toArray.2 (.head _)), e _ (List.mem_toArray.2 (.tail _ (.head _)))]; done)

theorem alV_congr {tm tm' : Tm} {op : Op} (e : ∀ x ∈ op.operands, ev tm x = ev tm' x) : alV T tm op = alV T tm' op := by
  cases op <;> simp only [alV] <;> simp only [Op.operands] at e
  case box t x => rw [e x (by simp)]
  case makeSlice t l c => rw [e l (by simp), e c (by simp)]
  case buildSlice t len ps =>
    congr 1
    refine Array.map_congr_left fun x hx => ?_
    rw [e x.2 (by simp only [List.mem_toArray, List.mem_map]; exact ⟨x, by simpa using hx, rfl⟩)]

theorem effF_congr {tm tm' : Tm} {op : Op} {o o' : Oper} {k : Value → Heap → Prop} {h : Heap} (e : ∀ x ∈ op.operands, ev tm x = ev tm' x) (H : effF P T n (fun _ _ _ => False) o tm k h op) :
    effF P T n (fun _ _ _ => False) o' tm' k h op := by
  unfold effF at H ⊢
  split at H
  · next t a x => rw [e a (by simp [Op.operands]), e x (by simp [Op.operands])] at H; exact H
  · next s x t t' => rw [e s (by simp [Op.operands, Call.operands]), e x (by simp [Op.operands, Call.operands])] at H; exact H
  · next s x t t' => rw [e s (by simp [Op.operands, Call.operands]), e x (by simp [Op.operands, Call.operands])] at H; exact H
  · next f args ts =>
    rw [e f (by simp [Op.operands, Call.operands]), Array.map_congr_left (fun x hx => e x (by simp [Op.operands, Call.operands, hx]))] at H
    exact H
  · next r name args ts =>
    rw [e r (by simp [Op.operands, Call.operands]), Array.map_congr_left (fun x hx => e x (by simp [Op.operands, Call.operands, hx]))] at H
    exact H
  · next x => split at H <;> exact H.elim
  · exact H

theorem put_comm (tm : Tm) {x y : Option Nat} (v u : Value) (h : ∀ d, x = some d → y ≠ some d) : put n (put n tm x v) y u = put n (put n tm y u) x v := by
  cases x with
  | none => rfl
  | some d =>
    cases y with
    | none => rfl
    | some e =>
      have hne : d ≠ e := fun he => h d rfl (he ▸ rfl)
      funext k
      simp only [put]
      by_cases h1 : d < n <;> by_cases h2 : e < n <;> simp only [h1, h2, if_true, if_false]
      by_cases h3 : k = e
      · simp [h3, show ¬ e = d from fun h => hne h.symm]
      · simp [h3]

theorem ev_put {tm : Tm} {d : Option Nat} {v : Value} {x : Operand} (h : ∀ k, d = some k → x ≠ .tmp k) : ev (put n tm d v) x = ev tm x := by
  cases d with
  | none => rfl
  | some d =>
    cases x with
    | tmp t =>
      have hne : ¬ t = d := fun e => h d rfl (e ▸ rfl)
      simp only [ev, put]
      split
      · simp [hne]
      · rfl
    | _ => rfl

theorem apartT_spec {ops : List Oper} {x y : Oper} (h : apartT ops x y = true) :
    (∀ d, x.dst = some d → d ∉ looks ops y) ∧ (∀ d, x.dst = some d → y.dst ≠ some d) ∧ (∀ d, y.dst = some d → d ∉ looks ops x) := by
  refine ⟨fun d hd => ?_, fun d hd => ?_, fun d hd => ?_⟩ <;> simp [apartT, hd] at h
  · exact h.1.1
  · exact h.1.2
  · exact h.2

theorem looks_ev {ops : List Oper} {o : Oper} {tm : Tm} {d : Option Nat} {v : Value} (h : ∀ k, d = some k → k ∉ looks ops o) : ∀ x ∈ o.op.operands, ev (put n tm d v) x = ev tm x :=
  fun x hx => ev_put fun k hk he => h k hk (by
    subst he
    unfold looks
    refine List.mem_append.2 (.inl (List.mem_filterMap.2 ⟨.tmp k, by simpa using hx, rfl⟩)))

theorem looks_wanted {ops : List Oper} {o : Oper} {tm : Tm} {d : Option Nat} {v : Value} (h : ∀ k, d = some k → k ∉ looks ops o) : wantedT ops o (put n tm d v) = wantedT ops o tm := by
  unfold wantedT
  unfold looks at h
  cases hg : o.guard with
  | none => rfl
  | some g =>
    obtain ⟨j, want⟩ := g
    simp only
    cases hd : (ops[j]?).bind (·.dst) with
    | none => rfl
    | some e =>
      simp only
      have : put n tm d v e = tm e := by
        have := ev_put (n := n) (tm := tm) (d := d) (v := v) (x := .tmp e) (fun k hk he => by
          cases he
          exact h _ hk (List.mem_append.2 (.inr (by simp [hg, hd]))))
        exact this
      rw [this]

/-- There is an outcome. -/
theorem effF_some (hT : TOK P T) {o : Oper} {tm : Tm} {k : Value → Heap → Prop} {h : Heap} {W0 w : World} (s : Sat W0 w h) (hp : isPure o.op = false) (ha : isAl o.op = false)
    (H : effF P T n (fun _ _ _ => False) o tm k h o.op) : ∃ v h' w', Sat W0 w' h' ∧ k v h' := by
  have H1 : opF P T n (fun _ _ _ => False) { o with dst := none } tm (fun _ h' => ∃ v, k v h') h := by
    unfold opF
    rw [if_neg (by simp [hp]), if_neg (by simp [ha])]
    have : effF P T n (fun _ _ _ => False) { o with dst := none } tm k h o.op := effF_congr (fun x _ => rfl) H
    exact effF_mono (fun v h' x => ⟨v, x⟩) (fun _ _ => id) this
  have H2 := opF_sound hT H1
  unfold opG at H2
  have H3 := hwp_run P _ h w s H2
  generalize (execOp (ev tm) { o with dst := none }).run P w = r at H3
  cases r with
  | ok x w' =>
    obtain ⟨h', s', H'⟩ := H3
    cases x <;> simp only [onNext] at H' <;> first | exact H'.elim | skip
    case value v => obtain ⟨v, H'⟩ := H'; exact ⟨v, h', w', s', H'⟩
    case skip => obtain ⟨v, H'⟩ := H'; exact ⟨v, h', w', s', H'⟩
    case enter f args =>
      obtain ⟨e, w'', fr, ⟨h'', s'', R⟩, _⟩ := H' _ w' s' []
      cases e with
      | returned v => obtain ⟨v, R⟩ := R; exact ⟨v, h'', w'', s'', R⟩
      | panicked ch => exact R.elim
      | outgrown => exact R.elim
  | halt x w' => obtain ⟨v, h', _, _, H'⟩ := H3; exact H'.elim

theorem new_comm {h : Heap} {r r' : Nat} (hne : r ≠ r') (c c' : Array Value) (t t' : TypeId) : (h.new r c t).new r' c' t' = (h.new r' c' t').new r c t := by
  unfold Heap.new
  congr 1
  · funext b i
    by_cases h1 : b = r <;> by_cases h2 : b = r' <;> simp [h1, h2]
    · omega
    · intro h3; omega
    · intro h3; omega
  · funext b
    by_cases h1 : b = r <;> by_cases h2 : b = r' <;> simp [h1, h2]
    · omega
    · intro h3; omega
    · intro h3; omega

theorem fresh_new {h : Heap} {r r' : Nat} {c : Array Value} {t : TypeId} (hf : (h.new r c t).fresh r') : r' ≠ r ∧ h.fresh r' := by
  have hne : r' ≠ r := by
    rintro rfl
    have := hf.1
    simp [Heap.new] at this
  refine ⟨hne, ?_, fun i => ?_⟩
  · have := hf.1
    simpa [Heap.new, hne] using this
  · have := hf.2 i
    simpa [Heap.new, hne] using this

theorem fresh_new' {h : Heap} {r r' : Nat} {c : Array Value} {t : TypeId} (hne : r' ≠ r) (hf : h.fresh r') : (h.new r c t).fresh r' :=
  ⟨by simpa [Heap.new, hne] using hf.1, fun i => by simpa [Heap.new, hne] using hf.2 i⟩

theorem hp_pure {op : Op} (h : hpB op = true) : isPure op = true := by
  unfold hpB at h
  simp only [Bool.and_eq_true] at h
  exact h.1
theorem hp_same {op : Op} (h : hpB op = true) (tm : Tm) (h0 h1 : Heap) : pureV T tm h0 op = pureV T tm h1 op := by
  unfold hpB at h
  simp only [Bool.and_eq_true] at h
  cases op <;> first | rfl | (simp at h)

theorem st_some {o : Oper} {tm : Tm} {k : Value → Heap → Prop} {h : Heap} (hs : isSt o.op = true) (H : effF P T n Q o tm k h o.op) : ∃ v h', k v h' := by
  obtain ⟨dst, op, ty, pos, after, guard⟩ := o
  cases op <;> simp only [isSt] at hs <;> first | (cases hs; done) | skip
  simp only [effF] at H
  obtain ⟨h', _, x⟩ := PV.out H
  exact ⟨_, _, x⟩

theorem st_congr {tm tm' : Tm} {o o' : Oper} {Q' : QT} {op : Op} {k : Value → Heap → Prop} {h : Heap} (hs : isSt op = true) (e : ∀ x ∈ op.operands, ev tm x = ev tm' x) (H : effF P T n Q o tm k h op) :
    effF P T n Q' o' tm' k h op := by
  cases op <;> simp only [isSt] at hs <;> first | (cases hs; done) | skip
  next t a x =>
  simp only [effF] at H ⊢
  rw [e a (by simp [Op.operands]), e x (by simp [Op.operands])] at H
  exact H

theorem st_notpure {op : Op} (hs : isSt op = true) : isPure op = false ∧ isAl op = false := by
  cases op <;> simp only [isSt] at hs <;> first | (cases hs; done) | exact ⟨rfl, rfl⟩

theorem add_block (a : Addr) (n : Nat) : (a.add n).block = a.block := by unfold Addr.add; split <;> rfl

theorem setL_new {r : Nat} {cs : Array Value} {t : TypeId} {a : Addr} (hne : a.block ≠ r) (l : List Value) : ∀ (i : Nat) (h : Heap), setL (h.new r cs t) a i l = (setL h a i l).map fun h' => h'.new r cs t := by
  induction l with
  | nil => intro i h; rfl
  | cons v l ih =>
    intro i h
    simp only [setL]
    have e1 : (h.new r cs t).canB (a.add i).block (a.add i).off = h.canB (a.add i).block (a.add i).off := by
      simp only [Heap.canB, Heap.new, add_block, hne, if_false]
    have e2 : (h.new r cs t).set (a.add i).block (a.add i).off v = (h.set (a.add i).block (a.add i).off v).new r cs t := by
      unfold Heap.set Heap.new
      congr 1
      funext b j
      dsimp only
      rw [add_block]
      by_cases h1 : b = a.block
      · subst h1
        simp [hne]
      · simp [h1]
    rw [e1, e2, ih]
    split <;> rfl

theorem setL_fresh {a : Addr} (l : List Value) : ∀ (i : Nat) (h h' : Heap), setL h a i l = some h' → ∀ r, h'.fresh r → h.fresh r ∧ (l = [] ∨ a.block ≠ r) := by
  induction l with
  | nil => intro i h h' e r hr; cases e; exact ⟨hr, .inl rfl⟩
  | cons v l ih =>
    intro i h h' e r hr
    simp only [setL] at e
    split at e
    · next hc =>
      obtain ⟨⟨f1, f2⟩, _⟩ := ih _ _ _ e r hr
      have hne : a.block ≠ r := by
        rintro rfl
        have := hc.2.2
        unfold Heap.canB at this
        rw [add_block] at this
        rw [show (h.info a.block) = none from f1] at this
        cases this
      refine ⟨⟨f1, fun j => ?_⟩, .inr hne⟩
      have := f2 j
      simp only [Heap.set] at this
      split at this
      · cases this
      · exact this
    · cases e

theorem setL_fresh' {a : Addr} (l : List Value) : ∀ (i : Nat) (h h' : Heap), setL h a i l = some h' → ∀ r, h.fresh r → h'.fresh r ∧ (l = [] ∨ a.block ≠ r) := by
  induction l with
  | nil => intro i h h' e r hr; cases e; exact ⟨hr, .inl rfl⟩
  | cons v l ih =>
    intro i h h' e r hr
    simp only [setL] at e
    split at e
    · next hc =>
      have hne : a.block ≠ r := by
        rintro rfl
        have := hc.2.2
        unfold Heap.canB at this
        rw [add_block] at this
        rw [hr.1] at this
        cases this
      refine ⟨(ih _ _ _ e r ⟨hr.1, fun j => ?_⟩).1, .inr hne⟩
      simp only [Heap.set]
      split
      · next hb => rw [add_block] at hb; exact (hne hb.1.symm).elim
      · exact hr.2 j
    · cases e

theorem setL_new' {r : Nat} {cs : Array Value} {t : TypeId} {a : Addr} {l : List Value} (hne : l = [] ∨ a.block ≠ r) (i : Nat) (h : Heap) : setL (h.new r cs t) a i l = (setL h a i l).map fun h' => h'.new r cs t := by
  rcases hne with rfl | hne
  · rfl
  · exact setL_new hne l i h

theorem le_new_new {h h' : Heap} (l : Le h h') (r : Nat) (cs : Array Value) (t : TypeId) : Le (h.new r cs t) (h'.new r cs t) := by
  refine ⟨fun b i v e => ?_, fun b x e => ?_⟩
  · simp only [Heap.new] at e ⊢
    split
    · next hb => rw [if_pos hb] at e; exact e
    · next hb => rw [if_neg hb] at e; exact l.cell _ _ _ e
  · simp only [Heap.new] at e ⊢
    split
    · next hb => rw [if_pos hb] at e; exact e
    · next hb => rw [if_neg hb] at e; exact l.info _ _ e

theorem cons_le {h h' : Heap} (l : Le h h') (c : Cons h') : Cons h := let ⟨_, w, s⟩ := c; ⟨_, w, s.le l⟩

theorem stV_new {t : TypeId} {x v : Value} {h h' : Heap} (e : stV T t x v h = some h') {r : Nat} (hr : h.fresh r) (cs : Array Value) (et : TypeId) : stV T t x v (h.new r cs et) = some (h'.new r cs et) ∧ h'.fresh r := by
  unfold stV at e ⊢
  split at e
  · next ti a ht =>
    split at e
    · next hc =>
      obtain ⟨f1, f2⟩ := setL_fresh' _ _ _ _ e r hr
      simp only [if_pos hc, setL_new' f2, e, Option.map_some]
      exact ⟨trivial, f1⟩
    · cases e
  · cases e

theorem stV_new_inv {t : TypeId} {x v : Value} {h : Heap} {W0 w : World} (s : Sat W0 w h) {cs : Array Value} {et : TypeId} (e : ∀ r, h.fresh r → ∃ h2, stV T t x v (h.new r cs et) = some h2) : ∃ h', stV T t x v h = some h' := by
  -- a new block other than the one that is written
  let blk := match x with | .pointer (some a) => a.block | _ => 0
  have hf : h.fresh (w.heap.size + blk + 1) := by
    refine ⟨?_, fun i => ?_⟩
    · cases e : h.info (w.heap.size + blk + 1) with
      | none => rfl
      | some x =>
        obtain ⟨t, n⟩ := x
        obtain ⟨c, hc, _⟩ := s.info _ _ _ e
        have := (Array.getElem?_eq_some_iff.1 hc).1
        omega
    · cases e : h.cell (w.heap.size + blk + 1) i with
      | none => rfl
      | some v => exact absurd (cell?_lt (s.cell _ _ _ e)) (by omega)
  obtain ⟨h2, e2⟩ := e _ hf
  unfold stV at e2 ⊢
  split at e2
  · next ti a ht =>
    split at e2
    · next hc =>
      rw [setL_new (by simp only [blk]; omega) _ _ _] at e2
      cases h3 : setL h a 0 v.cells.toList with
      | none => rw [h3] at e2; cases e2
      | some h' => exact ⟨h', by simp only [if_pos hc]⟩
    · cases e2
  · cases e2

theorem cons_stV {t : TypeId} {x v : Value} {h h' : Heap} (c : Cons h) (e : stV T t x v h = some h') : Cons h' := by
  unfold stV at e
  split at e
  · next ti a ht =>
    split at e
    · obtain ⟨W0, w, s⟩ := c
      have := hwp_run (default : Program) (storeCells a v.cells.toList 0) h w s (hwp_storeCells (E := fun _ _ => False) (Q := fun _ h'' => h'' = h') v.cells.toList 0 h h' e rfl)
      generalize (storeCells a v.cells.toList 0).run (default : Program) w = r at this
      cases r with
      | ok _ w' => obtain ⟨h'', s', rfl⟩ := this; exact ⟨_, w', s'⟩
      | halt _ w' => obtain ⟨_, _, _, _, f⟩ := this; exact f.elim
    · cases e
  · cases e

/-- A new block and a write that only adds to what is known. -/
theorem swap_al_st {l : List Oper} {oi oj : Oper} (a1 : ∀ d, oi.dst = some d → d ∉ looks l oj) (a2 : ∀ d, oi.dst = some d → oj.dst ≠ some d) (a3 : ∀ d, oj.dst = some d → d ∉ looks l oi)
    (hi : isAl oi.op = true) (hj : isSt oj.op = true) (gi : oi.guard = none) (gj : oj.guard = none)
    {K : K3} {h0 : Heap} {tm : Tm} {h : Heap} {W0 w : World} (s : Sat W0 w h) :
    dOp P T n Q l false oi (dOp P T n Q l false oj K) h0 tm h ↔ dOp P T n Q l false oj (dOp P T n Q l false oi K) h0 tm h := by
  have w1 : ∀ tm, wantedT l oi tm = true := fun tm => by simp [wantedT, gi]
  have w2 : ∀ tm, wantedT l oj tm = true := fun tm => by simp [wantedT, gj]
  have ip : isPure oi.op = false := by revert hi; cases oi.op <;> simp [isAl, isPure]
  obtain ⟨jp, ja⟩ := st_notpure hj
  have ai : ∀ v, alV T (put n tm oj.dst v) oi.op = alV T tm oi.op := fun v => alV_congr (looks_ev a3)
  have pc : ∀ v u, put n (put n tm oi.dst v) oj.dst u = put n (put n tm oj.dst u) oi.dst v := fun v u => put_comm tm v u a2
  have di : ∀ (K : K3) h0 tm h, dOp P T n Q l false oi K h0 tm h = alF (alV T tm oi.op) h fun v h' => K h0 (put n tm oi.dst v) h' := by
    intro K h0 tm h
    rw [dOp_eq, if_neg (by rw [w1]; simp), if_neg (by rw [ip]; simp), if_pos hi]
  obtain ⟨st, a, x, hop⟩ : ∃ st a x, oj.op = .store st a x := by
    revert hj; cases oj.op <;> simp [isSt]
  have dj : ∀ (K : K3) h0 tm h, dOp P T n Q l false oj K h0 tm h = PV (stV T st (ev tm a) (ev tm x) h) fun h' => Le h h' ∧ (Cons h' → K h0 (put n tm oj.dst undef) h') := by
    intro K h0 tm h
    rw [dOp_eq, if_neg (by rw [w2]; simp), if_neg (by rw [jp]; simp), if_neg (by rw [ja]; simp), if_neg (by simp), hop]
    rfl
  have ea : ∀ v, ev (put n tm oi.dst v) a = ev tm a := fun v => looks_ev a1 a (by simp [hop, Op.operands])
  have ex : ∀ v, ev (put n tm oi.dst v) x = ev tm x := fun v => looks_ev a1 x (by simp [hop, Op.operands])
  rw [di, dj]
  simp only [di, dj, ai, ea, ex, pc]
  constructor
  · intro H
    obtain ⟨z, e1, H⟩ := PV.out H
    obtain ⟨h', e2⟩ := stV_new_inv s (cs := z.2.1) (et := z.2.2) (fun r hr => let ⟨h2, e2, _⟩ := PV.out (H r hr); ⟨h2, e2⟩)
    refine PV.mk e2 ⟨?_, fun c => PV.mk e1 fun r hr => ?_⟩
    · obtain ⟨h3, e3, l3, _⟩ := PV.out (H _ s.fresh)
      rw [(stV_new e2 s.fresh _ _).1] at e3
      cases e3
      refine ⟨fun b i v e => ?_, fun b y e => ?_⟩
      · have hb : b ≠ w.heap.size := by rintro rfl; rw [s.fresh.2 i] at e; cases e
        have := l3.cell b i v (by simp only [Heap.new, if_neg hb]; exact e)
        simpa only [Heap.new, if_neg hb] using this
      · have hb : b ≠ w.heap.size := by rintro rfl; rw [s.fresh.1] at e; cases e
        have := l3.info b y (by simp only [Heap.new, if_neg hb]; exact e)
        simpa only [Heap.new, if_neg hb] using this
    · have hr' : h.fresh r := by
        unfold stV at e2
        split at e2
        · split at e2
          · exact (setL_fresh _ _ _ _ e2 r hr).1
          · cases e2
        · cases e2
      obtain ⟨h3, e3, _, k⟩ := PV.out (H r hr')
      rw [(stV_new e2 hr' _ _).1] at e3
      cases e3
      exact k (cons_new c hr _ _)
  · intro H
    obtain ⟨h', e2, l2, H⟩ := PV.out H
    obtain ⟨z, e1, H⟩ := PV.out (H (cons_stV ⟨_, w, s⟩ e2))
    refine PV.mk e1 fun r hr => ?_
    obtain ⟨e3, f3⟩ := stV_new e2 hr z.2.1 z.2.2
    exact PV.mk e3 ⟨le_new_new l2 _ _ _, fun _ => H r f3⟩

/-- Two operations may change places. -/
theorem dOp_swap (hT : TOK P T) {l : List Oper} {oi oj : Oper} {bi bj : Bool} (hap : apartT l oi oj = true)
    (hp : (bi = false ∧ bj = false ∧ pairOK l oi oj = true) ∨ (bi = true ∧ isSt oi.op = true ∧ hpB oj.op = true) ∨ (bj = true ∧ isSt oj.op = true ∧ hpB oi.op = true))
    {K : K3} {h0 : Heap} {tm : Tm} {h : Heap} {W0 w : World} (s : Sat W0 w h)
    (H : dOp P T n Q l bi oi (dOp P T n Q l bj oj K) h0 tm h) : dOp P T n Q l bj oj (dOp P T n Q l bi oi K) h0 tm h := by
  obtain ⟨a1, a2, a3⟩ := apartT_spec hap
  -- what each sees of the other
  have wj : ∀ tm v, wantedT l oj (put n tm oi.dst v) = wantedT l oj tm := fun tm v => looks_wanted a1
  have wi : ∀ tm v, wantedT l oi (put n tm oj.dst v) = wantedT l oi tm := fun tm v => looks_wanted a3
  have pj : ∀ tm v h0, pureV T (put n tm oi.dst v) h0 oj.op = pureV T tm h0 oj.op := fun tm v h0 => pureV_congr h0 (looks_ev a1)
  have pi_ : ∀ tm v h0, pureV T (put n tm oj.dst v) h0 oi.op = pureV T tm h0 oi.op := fun tm v h0 => pureV_congr h0 (looks_ev a3)
  have aj : ∀ tm v, alV T (put n tm oi.dst v) oj.op = alV T tm oj.op := fun tm v => alV_congr (looks_ev a1)
  have ai : ∀ tm v, alV T (put n tm oj.dst v) oi.op = alV T tm oi.op := fun tm v => alV_congr (looks_ev a3)
  have ej : ∀ tm v (k : Value → Heap → Prop) h, effF P T n (fun _ _ _ => False) oj (put n tm oi.dst v) k h oj.op → effF P T n (fun _ _ _ => False) oj tm k h oj.op := fun tm v k h => effF_congr (looks_ev a1)
  have ei : ∀ tm v (k : Value → Heap → Prop) h, effF P T n (fun _ _ _ => False) oi tm k h oi.op → effF P T n (fun _ _ _ => False) oi (put n tm oj.dst v) k h oi.op := fun tm v k h => effF_congr fun x hx => (looks_ev a3 x hx).symm
  have pc : ∀ tm v u, put n (put n tm oi.dst v) oj.dst u = put n (put n tm oj.dst u) oi.dst v := fun tm v u => put_comm tm v u a2
  by_cases qi : (wantedT l oi tm = false ∨ isPure oi.op = true)
  · -- the first is quiet
    have hsame : ∀ tm' h0', (h0' = h0 ∨ bj = true) → isPure oi.op = true → bj = true ∧ isPure oj.op = true ∨ pureV T tm' h0' oi.op = pureV T tm' h0 oi.op := by
      intro tm' h0' e hpi
      rcases e with e | e
      · exact .inr (by rw [e])
      · rcases hp with ⟨_, h2, _⟩ | ⟨_, h2, _⟩ | ⟨_, _, h3⟩
        · rw [h2] at e; cases e
        · rw [(st_notpure h2).1] at hpi; cases hpi
        · exact .inr (hp_same h3 _ _ _)
    have hv : ∃ v, ∀ (K : K3) h0' tm' h', (h0' = h0 ∨ (bj = true ∧ isPure oj.op = false)) → (wantedT l oi tm' = wantedT l oi tm) → (∀ h1, pureV T tm' h1 oi.op = pureV T tm h1 oi.op) →
        (dOp P T n Q l bi oi K h0' tm' h' ↔ K h0' (put n tm' oi.dst v) h') := by
      rcases qi with q | q
      · refine ⟨undef, fun K h0' tm' h' _ e1 _ => ?_⟩
        rw [dOp_eq, if_pos (e1.trans q)]
      · by_cases hw : wantedT l oi tm = false
        · refine ⟨undef, fun K h0' tm' h' _ e1 _ => ?_⟩
          rw [dOp_eq, if_pos (e1.trans hw)]
        · have H' := H
          rw [dOp_eq (o := oi), if_neg hw, if_pos q] at H'
          obtain ⟨v, e, _⟩ := PV.out H'
          refine ⟨v, fun K h0' tm' h' e0 e1 e2 => ?_⟩
          have e3 : pureV T tm' h0' oi.op = pureV T tm' h0 oi.op := by
            rcases hsame tm' h0' (e0.imp id (·.1)) q with h1 | h1
            · rcases e0 with e0 | e0
              · rw [e0]
              · rw [e0.2] at h1; cases h1.2
            · exact h1
          rw [dOp_eq, if_neg (by rw [e1]; exact hw), if_pos q, e3, e2, e, PV_some]
    obtain ⟨v, hv⟩ := hv
    rw [hv _ _ _ _ (.inl rfl) rfl (fun _ => rfl)] at H
    -- the second goes first
    rw [dOp_eq (o := oj)] at H ⊢
    rw [wj] at H
    split at H
    · next c => rw [if_pos c]; rw [hv _ _ _ _ (.inl rfl) (wi _ _) (fun _ => pi_ _ _ _), ← pc]; exact H
    · next c =>
      rw [if_neg c]
      split at H
      · next c =>
        rw [if_pos c]
        rw [pj] at H
        exact PV.mono H fun u x => by rw [hv _ _ _ _ (.inl rfl) (wi _ _) (fun _ => pi_ _ _ _), ← pc]; exact x
      · next cp =>
        rw [if_neg cp]
        split at H
        · next c =>
          rw [if_pos c]
          rw [aj] at H
          exact PV.mono H fun u x r hr => by have y := x r hr; dsimp only at y ⊢; rw [hv _ _ _ _ (.inl rfl) (wi _ _) (fun _ => pi_ _ _ _), ← pc]; exact y
        · next c =>
          rw [if_neg c]
          cases bj with
          | false =>
            rw [if_neg (by simp)] at H ⊢
            exact effF_mono (fun u h' x => ⟨x.1, fun c => by rw [hv _ _ _ _ (.inl rfl) (wi _ _) (fun _ => pi_ _ _ _), ← pc]; exact x.2 c⟩) (fun _ _ => id) (ej _ _ _ _ H)
          | true =>
            rw [if_pos rfl] at H ⊢
            have hst : isSt oj.op = true := by
              rcases hp with ⟨_, h2, _⟩ | ⟨_, _, h3⟩ | ⟨_, h2, _⟩
              · cases h2
              · exact (cp (hp_pure h3)).elim
              · exact h2
            exact effF_mono (fun u h' x c => by rw [hv _ _ _ _ (.inr ⟨rfl, by simpa using cp⟩) (wi _ _) (fun _ => pi_ _ _ _), ← pc]; exact x c) (fun _ _ => id) (st_congr hst (looks_ev a1) H)
  · have qw : ¬ wantedT l oi tm = false := fun h => qi (.inl h)
    have qp : ¬ isPure oi.op = true := fun h => qi (.inr h)
    by_cases qj : (wantedT l oj tm = false ∨ isPure oj.op = true)
    · -- the second is quiet
      have hst : bi = true → isSt oi.op = true ∧ hpB oj.op = true := by
        intro hb
        rcases hp with ⟨h1, _⟩ | ⟨_, h2, h3⟩ | ⟨_, _, h3⟩
        · rw [h1] at hb; cases hb
        · exact ⟨h2, h3⟩
        · exact (qp (hp_pure h3)).elim
      have key : ∃ u, (∀ (K : K3) h0' tm' h', (h0' = h0 ∨ bi = true) → (wantedT l oj tm' = wantedT l oj tm) → (∀ h1, pureV T tm' h1 oj.op = pureV T tm h1 oj.op) → (dOp P T n Q l bj oj K h0' tm' h' ↔ K h0' (put n tm' oj.dst u) h')) := by
        by_cases hw : wantedT l oj tm = false
        · refine ⟨undef, fun K h0' tm' h' _ e1 _ => ?_⟩
          rw [dOp_eq, if_pos (e1.trans hw)]
        · have q : isPure oj.op = true := qj.resolve_left hw
          have one : ∃ v h0' h1, (h0' = h0 ∨ bi = true) ∧ dOp P T n Q l bj oj K h0' (put n tm oi.dst v) h1 := by
            have H' := H
            rw [dOp_eq (o := oi), if_neg qw, if_neg qp] at H'
            split at H'
            · obtain ⟨⟨vf, cs, t⟩, _, x⟩ := PV.out H'
              exact ⟨_, _, _, .inl rfl, x _ s.fresh⟩
            · next ha =>
              cases bi with
              | false =>
                rw [if_neg (by simp)] at H'
                obtain ⟨v, h1, w1, s1, _, x⟩ := effF_some hT s (by simpa using qp) (by simpa using ha) H'
                exact ⟨v, _, h1, .inl rfl, x ⟨_, w1, s1⟩⟩
              | true =>
                rw [if_pos rfl] at H'
                have hcons : effF P T n (fun _ _ _ => False) oi tm (fun v h' => Cons h' → dOp P T n Q l bj oj K h' (put n tm oi.dst v) h') h oi.op := st_congr (hst rfl).1 (fun _ _ => rfl) H'
                obtain ⟨v, h1, w1, s1, x⟩ := effF_some hT s (by simpa using qp) (by simpa using ha) hcons
                exact ⟨v, _, h1, .inr rfl, x ⟨_, w1, s1⟩⟩
          obtain ⟨v, h0', h1, e0, x⟩ := one
          rw [dOp_eq (o := oj), wj, if_neg hw, if_pos q, pj] at x
          obtain ⟨u, e, _⟩ := PV.out x
          have e' : pureV T tm h0 oj.op = some u := by
            rcases e0 with e0 | e0
            · rw [← e0]; exact e
            · rw [← hp_same (hst e0).2 tm h0' h0]; exact e
          refine ⟨u, fun K h0'' tm' h' e0' e1 e2 => ?_⟩
          have e3 : pureV T tm' h0'' oj.op = some u := by
            rw [e2]
            rcases e0' with e0' | e0'
            · rw [e0']; exact e'
            · rw [hp_same (hst e0').2 tm h0'' h0]; exact e'
          rw [dOp_eq, if_neg (by rw [e1]; exact hw), if_pos q, e3, PV_some]
      obtain ⟨u, hu⟩ := key
      rw [hu _ _ _ _ (.inl rfl) rfl (fun _ => rfl)]
      rw [dOp_eq (o := oi)] at H ⊢
      rw [wi]
      rw [if_neg qw, if_neg qp] at H ⊢
      split at H
      · next c =>
        rw [if_pos c, ai]
        refine PV.mono H fun v x r hr => ?_
        have := x r hr
        change dOp P T n Q l bj oj K h0 _ _ at this
        rw [hu _ _ _ _ (.inl rfl) (wj _ _) (fun _ => pj _ _ _), pc] at this
        exact this
      · next c =>
        rw [if_neg c]
        cases bi with
        | false =>
          rw [if_neg (by simp)] at H ⊢
          refine effF_mono (fun v h' x => ⟨x.1, fun c => ?_⟩) (fun _ _ => id) (ei _ _ _ _ H)
          have := x.2 c
          change dOp P T n Q l bj oj K h0 _ _ at this
          rw [hu _ _ _ _ (.inl rfl) (wj _ _) (fun _ => pj _ _ _), pc] at this
          exact this
        | true =>
          rw [if_pos rfl] at H ⊢
          refine effF_mono (fun v h' x c => ?_) (fun _ _ => id) (st_congr (Q' := Q) (o' := oi) (hst rfl).1 (fun x hx => (looks_ev a3 x hx).symm) H)
          have := x c
          change dOp P T n Q l bj oj K h' _ _ at this
          rw [hu _ _ _ _ (.inr rfl) (wj _ _) (fun _ => pj _ _ _), pc] at this
          exact this
    · -- both make one block
      have jw : ¬ wantedT l oj tm = false := fun h => qj (.inl h)
      have jp : ¬ isPure oj.op = true := fun h => qj (.inr h)
      have hcl : bi = false ∧ bj = false ∧ oi.guard = none ∧ oj.guard = none ∧ ((isAl oi.op = true ∧ isAl oj.op = true) ∨ (isAl oi.op = true ∧ isSt oj.op = true) ∨ (isSt oi.op = true ∧ isAl oj.op = true)) := by
        rcases hp with ⟨b1, b2, hp⟩ | ⟨_, _, h3⟩ | ⟨_, _, h3⟩
        · simp only [pairOK, Bool.or_eq_true, Bool.and_eq_true, Option.isNone_iff_eq_none] at hp
          rcases hp.2 with (h | h) | h
          · exact (qp h).elim
          · exact (jp h).elim
          · exact ⟨b1, b2, h.1.2, h.2, by
              rcases h.1.1 with (h | h) | h
              · exact .inl h
              · exact .inr (.inl h)
              · exact .inr (.inr h)⟩
        · exact (jp (hp_pure h3)).elim
        · exact (qp (hp_pure h3)).elim
      obtain ⟨rfl, rfl, g1, g2, hal | hal | hal⟩ := hcl
      rotate_left
      · exact (swap_al_st a1 a2 a3 hal.1 hal.2 g1 g2 s).1 H
      · exact (swap_al_st a3 (fun d h1 h2 => a2 d h2 h1) a1 hal.2 hal.1 g2 g1 s).2 H
      rw [dOp_eq (o := oi), if_neg qw, if_neg qp, if_pos hal.1] at H
      rw [dOp_eq (o := oj), if_neg jw, if_neg jp, if_pos hal.2]
      obtain ⟨⟨vf, cs, t⟩, e1, x⟩ := PV.out H
      have x0 := x _ s.fresh
      dsimp only at x0
      rw [dOp_eq (o := oj), wj, if_neg jw, if_neg jp, if_pos hal.2, aj] at x0
      obtain ⟨⟨vf', cs', t'⟩, e2, _⟩ := PV.out x0
      refine PV.mk e2 fun r' hr' => ?_
      dsimp only
      rw [dOp_eq (o := oi), wi, if_neg qw, if_neg qp, if_pos hal.1, ai]
      refine PV.mk e1 fun r hr => ?_
      dsimp only
      obtain ⟨hne, hr1⟩ := fresh_new hr
      have x1 := x r hr1
      dsimp only at x1
      rw [dOp_eq (o := oj), wj, if_neg jw, if_neg jp, if_pos hal.2, aj, e2] at x1
      have x2 := x1 r' (fresh_new' (Ne.symm hne) hr')
      dsimp only at x2
      rw [pc, new_comm hne] at x2
      exact x2

/-- All that a listed operation comes after is listed. -/
def Closed (ops : Array Oper) (listed : Array Bool) : Prop := ∀ (j : Nat) (o : Oper), ops[j]? = some o → listed.getD j false = true → ∀ e ∈ o.after, Region.binds .any e = true → listed.getD e.on false = true

theorem foldBits (f : Edge → Nat) (l : List Edge) (i : Nat) : ∀ (s : Nat), (l.foldl (fun s e => if Region.binds .any e = true then s ||| (1 <<< e.on) ||| f e else s) s).testBit i = true →
    s.testBit i = true ∨ ∃ e ∈ l, Region.binds .any e = true ∧ (e.on = i ∨ (f e).testBit i = true) := by
  induction l with
  | nil => exact fun s h => .inl h
  | cons e l ih =>
    intro s h
    simp only [List.foldl_cons] at h
    rcases ih _ h with h1 | ⟨e', he', h1⟩
    · split at h1
      · next hb =>
        simp only [Nat.testBit_or, Bool.or_eq_true] at h1
        rcases h1 with (h1 | h1) | h1
        · exact .inl h1
        · refine .inr ⟨e, .head _, hb, .inl ?_⟩
          simp only [Nat.testBit_shiftLeft, Bool.and_eq_true, decide_eq_true_eq] at h1
          have h2 := h1.2
          by_cases h3 : i - e.on = 0
          · omega
          · rw [show (1 : Nat) = 2 ^ 0 from rfl, Nat.testBit_two_pow] at h2
            simp only [decide_eq_true_eq] at h2
            omega
        · exact .inr ⟨e, .head _, hb, .inr h1⟩
      · exact .inl h1
    · exact .inr ⟨e', .tail _ he', h1⟩

theorem closGo_spec (r : List Oper) : ∀ (acc : List Nat) (k : Nat), ∃ tail, closGo r acc = acc ++ tail ∧ tail.length = r.length ∧ ∀ (j : Nat) (o : Oper), r[j]? = some o → ∀ i,
    ((closGo r acc).getD (acc.length + j) 0).testBit i = true → ∃ e ∈ o.after, Region.binds .any e = true ∧ (e.on = i ∨ (e.on < acc.length + j ∧ ((closGo r acc).getD e.on 0).testBit i = true)) := by
  induction r with
  | nil => exact fun acc k => ⟨[], by simp [closGo], rfl, fun j o h => by simp at h⟩
  | cons o r ih =>
    intro acc k
    simp only [closGo]
    obtain ⟨tail, h1, h2, h3⟩ := ih (acc ++ [o.after.toList.foldl (fun s e => if Region.binds .any e = true then s ||| (1 <<< e.on) ||| acc.getD e.on 0 else s) 0]) (k + 1)
    generalize hm : (o.after.toList.foldl (fun s e => if Region.binds .any e = true then s ||| (1 <<< e.on) ||| acc.getD e.on 0 else s) 0) = m at h1 h3 ⊢
    refine ⟨m :: tail, by rw [h1]; simp, by simp [h2], ?_⟩
    intro j o' hj i hb
    cases j with
    | zero =>
      simp only [List.getElem?_cons_zero, Option.some.injEq] at hj
      subst hj
      rw [h1] at hb
      simp only [Nat.add_zero, List.append_assoc, List.getD_eq_getElem?_getD] at hb
      rw [List.getElem?_append_right (by omega)] at hb
      simp only [Nat.sub_self, List.cons_append, List.getElem?_cons_zero, Option.getD_some] at hb
      rw [← hm] at hb
      rcases foldBits (fun e => acc.getD e.on 0) _ _ _ hb with h | ⟨e, he, h4, h5⟩
      · simp at h
      · refine ⟨e, by simpa using he, h4, ?_⟩
        rcases h5 with h5 | h5
        · exact .inl h5
        · right
          have hlt : e.on < acc.length := by
            rcases Nat.lt_or_ge e.on acc.length with h | h
            · exact h
            · simp [List.getD_eq_getElem?_getD, List.getElem?_eq_none h] at h5
          refine ⟨by omega, ?_⟩
          rw [h1]
          simp only [List.append_assoc, List.getD_eq_getElem?_getD] at h5 ⊢
          rw [List.getElem?_append_left hlt]
          exact h5
    | succ j =>
      simp only [List.getElem?_cons_succ] at hj
      have h4 := h3 j o' hj i (by
        have : acc.length + (j + 1) = (acc ++ [m]).length + j := by simp; omega
        rw [← this]; exact hb)
      obtain ⟨e, he, hbd, h5⟩ := h4
      refine ⟨e, he, hbd, h5.imp id fun ⟨h6, h7⟩ => ⟨by simp at h6; omega, h7⟩⟩

theorem clos_spec {ops : List Oper} {j : Nat} {o : Oper} (hj : ops[j]? = some o) {i : Nat} (h : ((clos ops).getD j 0).testBit i = true) :
    ∃ e ∈ o.after, Region.binds .any e = true ∧ (e.on = i ∨ (e.on < j ∧ ((clos ops).getD e.on 0).testBit i = true)) := by
  obtain ⟨_, _, _, h3⟩ := closGo_spec ops [] 0
  simpa [clos] using h3 j o hj i (by simpa [clos] using h)

/-- What a ready or a listed operation comes after is listed. -/
theorem clos_listed {listed : Array Bool} (hc : Closed ops listed) : ∀ (j : Nat) (o : Oper), ops[j]? = some o → (∀ e ∈ o.after, Region.binds .any e = true → listed.getD e.on false = true) →
    ∀ i, ((clos ops.toList).getD j 0).testBit i = true → listed.getD i false = true := by
  intro j
  induction j using Nat.strongRecOn with
  | _ j ih =>
    intro o ho hl i hi
    obtain ⟨e, he, hb, h1⟩ := clos_spec (ops := ops.toList) (j := j) (o := o) (by simpa using ho) hi
    rcases h1 with h1 | ⟨h1, h2⟩
    · rw [← h1]; exact hl e he hb
    · have hle := hl e he hb
      have hlt : e.on < ops.size := by
        have := (Array.getElem?_eq_some_iff.1 ho).1
        omega
      exact ih e.on h1 ops[e.on] (Array.getElem?_eq_getElem hlt) (fun e' he' hb' => hc _ _ (Array.getElem?_eq_getElem hlt) hle e' he' hb') i h2

theorem closed_set {listed : Array Bool} (hc : Closed ops listed) {j : Nat} (hj : j ∈ Region.ready .any ops listed) : Closed ops (listed.setIfInBounds j true) := by
  obtain ⟨_, oj, hoj, hall⟩ := mem_ready.1 hj
  intro k ok hk hl e he hb
  refine getD_set_true ?_
  by_cases hkj : j = k
  · subst hkj
    rw [hoj] at hk
    cases hk
    exact hall e he hb
  · rw [getD_set_ne false hkj] at hl
    exact hc k ok hk hl e he hb

theorem opsSize {k : Nat} {o : Oper} (h : ops[k]? = some o) : k < ops.toList.length := by simpa using (Array.getElem?_eq_some_iff.1 h).1

theorem isoB_spec {l : List Oper} {k : Nat} (h : isoB l k = true) {j : Nat} (hj : j < l.length) (hne : j ≠ k) :
    (∃ ok oj, l[k]? = some ok ∧ l[j]? = some oj ∧ isSt ok.op = true ∧ hpB oj.op = true) ∨ (j < k ∧ ((clos l).getD k 0).testBit j = true) ∨ (k < j ∧ ((clos l).getD j 0).testBit k = true) := by
  have := List.all_eq_true.1 h j (List.mem_range.2 hj)
  simp only [Bool.or_eq_true, beq_iff_eq, Bool.and_eq_true] at this
  rcases this with (h1 | h1) | h1
  · exact (hne h1).elim
  · left
    cases hk : l[k]? with
    | none => rw [hk] at h1; cases h1.1
    | some ok =>
      cases hj : l[j]? with
      | none => rw [hj] at h1; cases h1.2
      | some oj => rw [hk, hj] at h1; exact ⟨ok, oj, rfl, rfl, h1.1, h1.2⟩
  · split at h1
    · next hlt => exact .inr (.inl ⟨hlt, h1⟩)
    · next hlt => exact .inr (.inr ⟨by omega, h1⟩)

theorem getD_false {listed : Array Bool} {i : Nat} (h : listed.getD i true = false) : listed.getD i false = false := by
  rcases Nat.lt_or_ge i listed.size with h' | h'
  · simpa [h'] using h
  · simp [Array.getElem?_eq_none h']

/-- Two that are ready at once are not ordered. -/
theorem ready_two {listed : Array Bool} (hc : Closed ops listed) {i j : Nat} (hi : i ∈ Region.ready .any ops listed) (hj : j ∈ Region.ready .any ops listed) :
    ((clos ops.toList).getD j 0).testBit i = false := by
  obtain ⟨_, oj, hoj, hall⟩ := mem_ready.1 hj
  obtain ⟨hiun, _⟩ := mem_ready.1 hi
  cases e : ((clos ops.toList).getD j 0).testBit i with
  | false => rfl
  | true =>
    have := clos_listed hc j oj hoj hall i e
    rw [getD_false hiun] at this
    cases this

theorem ready_iso {listed : Array Bool} (hc : Closed ops listed) {i j : Nat} {oi oj : Oper} (hoi : ops[i]? = some oi) (hoj : ops[j]? = some oj) (hi : i ∈ Region.ready .any ops listed) (hj : j ∈ Region.ready .any ops listed) (hne : j ≠ i) :
    isoB ops.toList i = false ∨ (isoB ops.toList i = true ∧ isSt oi.op = true ∧ hpB oj.op = true) := by
  cases e : isoB ops.toList i with
  | false => exact .inl rfl
  | true =>
    rcases isoB_spec e (opsSize hoj) hne with ⟨a, b, h1, h2, h3, h4⟩ | ⟨_, h⟩ | ⟨_, h⟩
    · right
      rw [Array.getElem?_toList, hoi] at h1
      rw [Array.getElem?_toList, hoj] at h2
      cases h1; cases h2
      exact ⟨rfl, h3, h4⟩
    · rw [ready_two hc hj hi] at h; cases h
    · rw [ready_two hc hi hj] at h; cases h

theorem dOp_some (hT : TOK P T) {l : List Oper} {b : Bool} {o : Oper} {K : K3} {h0 : Heap} {tm : Tm} {h : Heap} (c : Cons h) (hb : b = true → isSt o.op = true) (H : dOp P T n Q l b o K h0 tm h) : ∃ h0' tm' h', K h0' tm' h' := by
  obtain ⟨W0, w, s⟩ := c
  rw [dOp_eq] at H
  split at H
  · exact ⟨_, _, _, H⟩
  · split at H
    · obtain ⟨v, _, x⟩ := PV.out H; exact ⟨_, _, _, x⟩
    · next hp =>
      split at H
      · obtain ⟨⟨vf, cs, t⟩, _, x⟩ := PV.out H
        exact ⟨_, _, _, x _ s.fresh⟩
      · next ha =>
        cases b with
        | false =>
          rw [if_neg (by simp)] at H
          obtain ⟨v, h1, w1, s1, _, x⟩ := effF_some hT s (by simpa using hp) (by simpa using ha) H
          exact ⟨_, _, _, x ⟨_, w1, s1⟩⟩
        | true =>
          rw [if_pos rfl] at H
          have hcons : effF P T n (fun _ _ _ => False) o tm (fun v h' => Cons h' → K h' (put n tm o.dst v) h') h o.op := st_congr (hb rfl) (fun _ _ => rfl) H
          obtain ⟨v, h1, w1, s1, x⟩ := effF_some hT s (by simpa using hp) (by simpa using ha) hcons
          exact ⟨_, _, _, x ⟨_, w1, s1⟩⟩

theorem pair_apart {l : List Oper} {a b : Oper} (h : pairOK l a b = true) : apartT l a b = true := by
  simp only [pairOK, Bool.and_eq_true] at h
  exact h.1

/-- It may go first. -/
theorem hAny_first (hT : TOK P T) {i : Nat} {oi : Oper} (hi : ops[i]? = some oi) :
    ∀ (fuel : Nat) (listed : Array Bool) (h0 : Heap) (tm : Tm) (h : Heap), Cons h → Le h0 h → Closed ops listed →
      (∀ j oj, ops[j]? = some oj → j ≠ i → listed.getD j true = false → ((clos ops.toList).getD j 0).testBit i = true ∨ pairOK ops.toList oi oj = true) →
      i ∈ Region.ready .any ops listed →
      dOp P T n Q ops.toList (isoB ops.toList i) oi (hAny P T n Q ops fuel (listed.setIfInBounds i true)) h0 tm h → hAny P T n Q ops (fuel + 1) listed h0 tm h := by
  intro fuel
  induction fuel with
  | zero =>
    intro listed h0 tm h c hle hc hfree hr H
    refine ⟨fun h => (by rw [h] at hr; cases hr), fun j hj => ?_⟩
    by_cases hji : j = i
    · subst hji; rw [hi]; exact H
    · exfalso
      obtain ⟨_, oj, hoj, _⟩ := mem_ready.1 hj
      obtain ⟨_, _, _, x⟩ := dOp_some hT c (fun hb => by
        rcases ready_iso hc hi hoj hr hj hji with h1 | h1
        · rw [h1] at hb; cases hb
        · exact h1.2.1) H
      have := ready_mono hj hji
      rw [x.1] at this
      cases this
  | succ fuel ih =>
    intro listed h0 tm h c hle hc hfree hr H
    refine ⟨fun h => (by rw [h] at hr; cases hr), fun j hj => ?_⟩
    by_cases hji : j = i
    · subst hji; rw [hi]; exact H
    · obtain ⟨hjun, oj, hoj, hall⟩ := mem_ready.1 hj
      rw [hoj]
      have iso_i := ready_iso hc hi hoj hr hj hji
      have iso_j := ready_iso hc hoj hi hj hr (Ne.symm hji)
      simp only
      have hpair : pairOK ops.toList oi oj = true := by
        rcases hfree j oj hoj hji hjun with h1 | h1
        · rw [ready_two hc hr hj] at h1; cases h1
        · exact h1
      have H1 : dOp P T n Q ops.toList (isoB ops.toList i) oi (dOp P T n Q ops.toList (isoB ops.toList j) oj (hAny P T n Q ops fuel ((listed.setIfInBounds i true).setIfInBounds j true))) h0 tm h := by
        refine dOp_mono c hle (fun h0' tm' h' c' l' x => ?_) H
        have := x.2 j (ready_mono hj hji)
        rw [hoj] at this
        exact this
      obtain ⟨W0, w, s⟩ := c
      have H2 := dOp_swap hT (pair_apart hpair) (by
        rcases iso_i with h1 | h1
        · rcases iso_j with h2 | h2
          · exact .inl ⟨h1, h2, hpair⟩
          · exact .inr (.inr h2)
        · exact .inr (.inl h1)) s H1
      refine dOp_mono ⟨_, w, s⟩ hle (fun h0' tm' h' c' l' x => ?_) H2
      rw [Array.setIfInBounds_comm _ _ (Ne.symm hji)] at x
      refine ih (listed.setIfInBounds j true) h0' tm' h' c' l' (closed_set hc hj) ?_ (ready_mono hr (Ne.symm hji)) x
      intro k ok hk hki hun
      refine hfree k ok hk hki ?_
      by_cases hjk : j = k
      · subst hjk; exact hjun
      · rw [getD_set_ne true hjk] at hun; exact hun

theorem drawB_spec {l : List Oper} (h : drawB l = true) {k : Nat} {ok : Oper} (hk : l[k]? = some ok) :
    (∀ e ∈ ok.after, Region.binds .any e = true → e.on < k) ∧ ∀ j oj, l[j]? = some oj → k < j → ((clos l).getD j 0).testBit k = true ∨ pairOK l ok oj = true := by
  have hlt : k < l.length := by
    rcases Nat.lt_or_ge k l.length with h | h
    · exact h
    · rw [List.getElem?_eq_none h] at hk; cases hk
  have h1 := List.all_eq_true.1 h k (List.mem_range.2 hlt)
  rw [hk] at h1
  simp only [Bool.and_eq_true] at h1
  refine ⟨fun e he hb => ?_, fun j oj hj hkj => ?_⟩
  · have := List.all_eq_true.1 h1.1 e (by simpa using he)
    rw [hb] at this
    simpa using this
  · have hjl : j < l.length := by
      rcases Nat.lt_or_ge j l.length with h | h
      · exact h
      · rw [List.getElem?_eq_none h] at hj; cases hj
    have := List.all_eq_true.1 h1.2 j (List.mem_range.2 hjl)
    rw [hj] at this
    simp only [Bool.or_eq_true, decide_eq_true_eq] at this
    rcases this with (h2 | h2) | h2
    · omega
    · exact .inl h2
    · exact .inr h2

/-- The first 'k' are listed. -/
def upTo (ops : Array Oper) (k : Nat) (listed : Array Bool) : Prop := listed.size = ops.size ∧ ∀ j, j < ops.size → listed.getD j false = decide (j < k)

theorem hAny_lex (hT : TOK P T) (hB : drawB ops.toList = true) : ∀ (l : List Oper) (k : Nat) (listed : Array Bool) (h0 : Heap) (tm : Tm) (h : Heap), (∀ j, l[j]? = ops[k + j]?) → upTo ops k listed →
    Cons h → Le h0 h → opsD P T n Q ops.toList k l h0 tm h → hAny P T n Q ops l.length listed h0 tm h := by
  intro l
  induction l with
  | nil =>
    intro k listed h0 tm h hl hu c hle H
    refine ⟨?_, H⟩
    have hge : ops.size ≤ k := by
      have := hl 0
      simp only [List.getElem?_nil, Nat.add_zero] at this
      rcases Nat.lt_or_ge k ops.size with h | h
      · rw [Array.getElem?_eq_getElem h] at this; cases this
      · exact h
    cases hr : Region.ready .any ops listed with
    | nil => rfl
    | cons x xs =>
      exfalso
      have hx : x ∈ Region.ready .any ops listed := by rw [hr]; exact .head _
      obtain ⟨hun, ox, hox, _⟩ := mem_ready.1 hx
      have hxl : x < ops.size := (Array.getElem?_eq_some_iff.1 hox).1
      have h1 := getD_false hun
      rw [hu.2 x hxl] at h1
      simp at h1
      omega
  | cons o l ih =>
    intro k listed h0 tm h hl hu c hle H
    have h0k : ops[k]? = some o := by simpa using (hl 0).symm
    have hk : k < ops.size := (Array.getElem?_eq_some_iff.1 h0k).1
    obtain ⟨s1, s2⟩ := drawB_spec hB (k := k) (ok := o) (by simpa using h0k)
    have hun : listed.getD k true = false := by
      have := hu.2 k hk
      have hk' : k < listed.size := by rw [hu.1]; exact hk
      simpa [hk'] using this
    have hcl : Closed ops listed := by
      intro j oj hj hlj e he hb
      have hjl : j < ops.size := (Array.getElem?_eq_some_iff.1 hj).1
      have hjk : j < k := by have := hu.2 j hjl; rw [hlj] at this; simpa using this.symm
      have hlt := (drawB_spec hB (k := j) (ok := oj) (by simpa using hj)).1 e he hb
      rw [hu.2 e.on (by omega)]
      simp
      omega
    have hready : k ∈ Region.ready .any ops listed := mem_ready.2 ⟨hun, o, h0k, fun e he hb => by
      have := s1 e he hb
      rw [hu.2 e.on (by omega)]
      simpa using this⟩
    refine hAny_first hT h0k l.length listed h0 tm h c hle hcl ?_ hready ?_
    · intro j oj hj hne hunj
      have hjl : j < ops.size := (Array.getElem?_eq_some_iff.1 hj).1
      have h1 := getD_false hunj
      rw [hu.2 j hjl] at h1
      simp at h1
      exact s2 j oj (by simpa using hj) (by omega)
    · refine dOp_mono (K := seeD n ops.toList k o (opsD P T n Q ops.toList (k + 1) l)) c hle (fun h0' tm' h' c' l' x => ih (k + 1) _ h0' tm' h' (fun j => ?_) ⟨by simpa using hu.1, fun j hj => ?_⟩ c' l' (seeB_out x)) H
      · have := hl (j + 1)
        simpa [Nat.add_assoc, Nat.add_comm 1 j] using this
      · by_cases hjk : k = j
        · subst hjk
          have : k < listed.size := by rw [hu.1]; exact hk
          simp [this]
        · rw [getD_set_ne false hjk, hu.2 j hj]
          congr 1
          simp only [eq_iff_iff]
          omega

theorem drawF_sound (hT : TOK P T) (hm : P.follows .mixedOrders = true) {id : Nat} {tm : Tm} {h : Heap} {a : Act} {W0 w : World} (H : drawF P T n Q ops.toList tm h) (r : Rl n tm a) (s : Sat W0 w h) :
    (Code.region id ops true).wp P (upQ W0 n Q) a w := by
  unfold drawF at H
  split at H
  case isFalse => exact H.elim
  next hB =>
  refine wp_region_any hm ?_
  have s' : Sat W0 { w with drawn := w.drawn + 1 } h := s.drawn _
  have := hAny_lex hT hB ops.toList 0 (Array.replicate ops.size false) h tm h (by simp) ⟨by simp, fun j hj => by simp [hj]⟩ ⟨_, _, s'⟩ (.refl _) H
  have h2 := hAny_sound hT _ _ _ _ _ this (.refl _) _ _ r s'
  simpa using h2

theorem drawF_DM (P : Program) (T : TT) (n : Nat) : DM (drawF P T n) := by
  intro Q Q' l tm h hQ H
  unfold drawF at H ⊢
  split at H
  case isFalse => exact H.elim
  next hB =>
  rw [if_pos hB]
  have key : ∀ (r : List Oper) (k : Nat) (h0 : Heap) (tm' : Tm) (h' : Heap), (∀ o, o ∈ r → ∀ d, o.dst = some d → d ∈ l.filterMap (·.dst)) → Agr (l.filterMap (·.dst)) tm tm' → opsD P T n Q l k r h0 tm' h' → opsD P T n Q' l k r h0 tm' h' := by
    intro r
    induction r with
    | nil => exact fun k h0 tm' h' _ ag H => hQ _ _ _ ag H
    | cons o r ih =>
      intro k h0 tm' h' hd ag H
      have ag' : ∀ v, Agr (l.filterMap (·.dst)) tm (put n tm' o.dst v) := fun v => ag.trans (.put v (hd o (.head _)))
      have step : ∀ k h0 tm'' h', Agr (l.filterMap (·.dst)) tm tm'' → opsD P T n Q l k r h0 tm'' h' → opsD P T n Q' l k r h0 tm'' h' := fun k h0 tm'' h' => ih k h0 tm'' h' (fun o ho => hd o (.tail _ ho))
      have ih' := fun k h0 v h' (x : seeD n l k o (opsD P T n Q l (k + 1) r) h0 (put n tm' o.dst v) h') =>
        show seeD n l k o (opsD P T n Q' l (k + 1) r) h0 (put n tm' o.dst v) h' from
        seeB_mono (step _ _ _ _ (ag' v)) (fun d u hdd => step _ _ _ _ ((ag' v).trans (.put u fun k hk => hd o (.head _) k (by rw [hdd]; exact hk)))) x
      simp only [opsD] at H ⊢
      rw [dOp_eq] at H ⊢
      split at H
      · next a => rw [if_pos a]; exact ih' _ _ _ _ H
      · next a =>
        rw [if_neg a]
        split at H
        · next a => rw [if_pos a]; exact PV.mono H fun _ => ih' _ _ _ _
        · next a =>
          rw [if_neg a]
          split at H
          · next a => rw [if_pos a]; exact PV.mono H fun _ x r hr => ih' _ _ _ _ (x r hr)
          · next a =>
            rw [if_neg a]
            split at H
            · next a => rw [if_pos a]; exact effF_mono (fun _ _ x c => ih' _ _ _ _ (x c)) (fun _ _ => hQ _ _ _ ag) H
            · next a => rw [if_neg a]; exact effF_mono (fun _ _ x => ⟨x.1, fun c => ih' _ _ _ _ (x.2 c)⟩) (fun _ _ => id) H
  exact key l 0 h tm h (fun o ho d hd => List.mem_filterMap.2 ⟨o, ho, hd⟩) (.refl _ _) H

end
end Go.HW
