/- What is asked of one operation suffices. -/
import Derived.Test.YthchjolcjicpgaaOps
namespace Go.HW

section
variable {P : Program} {T : TT} {α β : Type} {E : Value → Heap → Prop} {h : Heap}

theorem hwp_pure (a : α) (Q : α → Heap → Prop) : hwp P (pure a) Q E h ↔ Q a h := Iff.rfl
theorem hwp_bind' (s : Sem α) (f : α → Sem β) (Q : β → Heap → Prop) : hwp P (s >>= f) Q E h ↔ hwp P s (fun a h => hwp P (f a) Q E h) E h := hwp_bind P s f Q E h
theorem hwp_program (Q : Program → Heap → Prop) : hwp P program Q E h ↔ Q P h := Iff.rfl
theorem hwp_underlying {t : TypeId} {d : TypeDesc} (hd : P.underlying t = some d) (Q : TypeDesc → Heap → Prop) : hwp P (underlying t) Q E h ↔ Q d h := by
  simp only [underlying, hwp_bind', hwp_program, hd, hwp_pure]
theorem hwp_typeInfo {t : TypeId} {i : TypeInfo} (hi : P.info? t = some i) (Q : TypeInfo → Heap → Prop) : hwp P (typeInfo t) Q E h ↔ Q i h := by
  simp only [typeInfo, hwp_bind', hwp_program, hi, hwp_pure]
theorem hwp_sizeOf {t : TypeId} {i : TypeInfo} (hi : P.info? t = some i) (Q : Nat → Heap → Prop) : hwp P (sizeOf t) Q E h ↔ Q i.size h := by
  simp only [sizeOf, hwp_bind', hwp_typeInfo hi, hwp_pure]
theorem hwp_zeroValue {t : TypeId} {i : TypeInfo} {z : Value} (hi : P.info? t = some i) (hz : i.zero = some z) (Q : Value → Heap → Prop) : hwp P (zeroValue t) Q E h ↔ Q z h := by
  simp only [zeroValue, hwp_bind', hwp_typeInfo hi, hz, hwp_pure]
theorem hwp_isAgg {t : TypeId} {d : TypeDesc} (hd : P.underlying t = some d) (Q : Bool → Heap → Prop) : hwp P (isAgg t) Q E h ↔ Q (aggD d) h := by
  simp only [isAgg, hwp_bind', hwp_underlying hd]
  cases d <;> simp [aggD, hwp_pure]
theorem hwp_load {a : Addr} {v : Value} (e : h.at a = some v) {Q : Value → Heap → Prop} (q : Q v h) : hwp P (load a) Q E h := ⟨v, e, q⟩

theorem hwp_loadCells {a : Addr} {Q : Array Value → Heap → Prop} (n : Nat) : ∀ (i : Nat) (acc : Array Value) (l : List Value), cellsL h a i n = some l → Q (acc ++ l.toArray) h →
    hwp P (loadCellsFrom a i n acc) Q E h := by
  induction n with
  | zero => intro i acc l e q; simp only [cellsL, Option.some.injEq] at e; subst e; simpa [loadCellsFrom, hwp_pure] using q
  | succ n ih =>
    intro i acc l e q
    simp only [cellsL] at e
    split at e
    · next v l' h1 h2 =>
      cases e
      simp only [loadCellsFrom, hwp_bind']
      exact hwp_load h1 (ih _ _ _ h2 (by simpa using q))
    · cases e

theorem hwp_loadVar {t : TypeId} {ti : TI} (hT : TOK P T) (ht : T t = some ti) {a : Addr} {v : Value} (e : ldV T t (.pointer (some a)) h = some v) {Q : Value → Heap → Prop} (q : Q v h) :
    hwp P (loadVar t a) Q E h := by
  obtain ⟨hd, i, z, hi, hs, _⟩ := hT _ _ ht
  simp only [ldV, ht] at e
  simp only [loadVar, hwp_bind', hwp_isAgg hd]
  split at e
  · next ha =>
    rw [if_pos ha]
    simp only [hwp_bind', hwp_sizeOf hi, loadCells]
    cases hc : cellsL h a 0 ti.size with
    | none => rw [hc] at e; cases e
    | some l =>
      rw [hc] at e
      simp only [Option.map_some, Option.some.injEq] at e
      subst e
      rw [hs]
      exact hwp_loadCells _ _ _ _ hc (by simpa [hwp_pure] using q)
  · next ha =>
    rw [if_neg ha]
    exact hwp_load e q

theorem hwp_storeCells {a : Addr} {Q : Unit → Heap → Prop} (l : List Value) : ∀ (i : Nat) (h h' : Heap), setL h a i l = some h' → Q () h' → hwp P (storeCells a l i) Q E h := by
  induction l with
  | nil => intro i h h' e q; simp only [setL, Option.some.injEq] at e; subst e; exact q
  | cons v r ih =>
    intro i h h' e q
    simp only [setL] at e
    split at e
    · next hc =>
      simp only [storeCells, hwp_bind']
      exact ⟨hc.1, hc.2.1, Heap.can_of hc.2.2, ih _ _ _ e q⟩
    · cases e

theorem hwp_storeVar {t : TypeId} {ti : TI} (hT : TOK P T) (ht : T t = some ti) {a : Addr} {v : Value} {h' : Heap} (e : stV T t (.pointer (some a)) v h = some h') {Q : Unit → Heap → Prop} (q : Q () h') :
    hwp P (storeVar t a v) Q E h := by
  obtain ⟨hd, i, z, hi, hs, _⟩ := hT _ _ ht
  simp only [stV, ht] at e
  split at e
  · next hv =>
    simp only [storeVar, hwp_bind', hwp_sizeOf hi]
    rw [if_neg (by rw [hs]; simpa using hv)]
    exact hwp_storeCells _ _ _ _ e q
  · cases e

theorem Le.newP (h : Heap) (r : Nat) (l : List Value) (c : Array Value) (t : TypeId) (hl : ∀ i, i < l.length → c[i]? = l[i]?) : Le (h.newP r l t c.size) (h.new r c t) := by
  refine ⟨fun b i v e => ?_, fun b x e => ?_⟩
  · simp only [Heap.newP, Heap.new] at e ⊢
    split
    · next hb =>
      rw [if_pos hb] at e
      have : i < l.length := by
        rcases Nat.lt_or_ge i l.length with h | h
        · exact h
        · rw [List.getElem?_eq_none h] at e; cases e
      rw [hl i this, e]
    · next hb => rw [if_neg hb] at e; exact e
  · simpa [Heap.newP, Heap.new] using e

theorem hwp_newRow {t : TypeId} {cs : Array Value} {Q : Addr → Heap → Prop} (q : ∀ r, h.fresh r → Q ⟨r, 0, none⟩ (h.new r cs t)) : hwp P (newRow t cs) Q E h := by
  simp only [newRow, hwp_bind']
  exact ⟨cs, t, rfl, fun r hr => ⟨_, .refl _, q r hr⟩⟩

theorem hwp_newRowP {t : TypeId} {cs : Array Value} {l : List Value} (hl : ∀ i, i < l.length → cs[i]? = l[i]?) {Q : Addr → Heap → Prop} (q : ∀ r, h.fresh r → Q ⟨r, 0, none⟩ (h.newP r l t cs.size)) :
    hwp P (newRow t cs) Q E h := by
  simp only [newRow, hwp_bind']
  exact ⟨cs, t, rfl, fun r hr => ⟨_, Le.newP _ _ _ _ _ hl, q r hr⟩⟩

theorem hwp_part {t : TypeId} {ti : TI} (hT : TOK P T) (ht : T t = some ti) {cs : Array Value} {off : Nat} {v : Value} (e : partV ti cs off = some v) {Q : Value → Heap → Prop} (q : Q v h) :
    hwp P (part t cs off) Q E h := by
  obtain ⟨hd, i, z, hi, hs, _⟩ := hT _ _ ht
  simp only [partV] at e
  simp only [part, hwp_bind', hwp_isAgg hd]
  split at e
  · next ha =>
    rw [if_pos ha]
    cases e
    simp only [hwp_bind', hwp_sizeOf hi, hwp_pure, hs]
    exact q
  · next ha =>
    rw [if_neg ha, e]
    exact q

theorem hwp_fieldAt {s : TypeId} (hT : TOK P T) {x v : Value} {f : Nat} (e : fldV T s x f = some v) {Q : Value → Heap → Prop} (q : Q v h) : hwp P (Instr.fieldAt s x f) Q E h := by
  unfold fldV at e
  split at e
  case h_2 => cases e
  next fs _ _ _ a ht =>
  obtain ⟨hd, _⟩ := hT _ _ ht
  cases hf : fs[f]? with
  | none => rw [hf] at e; cases e
  | some fd =>
    rw [hf] at e
    dsimp only at e
    cases hft : T fd.type with
    | none => rw [hft] at e; cases e
    | some ti =>
      rw [hft] at e
      dsimp only at e
      obtain ⟨_, i, z, hi, hs, _⟩ := hT _ _ hft
      split at e
      · cases e
      · next hz =>
        cases e
        simp only [Instr.fieldAt, hwp_bind', hwp_underlying hd, hf, Instr.sureAddr, hwp_pure, fieldPlace, hwp_sizeOf hi]
        rw [if_neg (by rw [hs]; exact hz)]
        exact q

theorem hwp_indexAt {t : TypeId} (hT : TOK P T) {x y v : Value} (e : ixV T t x y = some v) {Q : Value → Heap → Prop} (q : Q v h) : hwp P (Instr.indexAt t x y) Q E h := by
  unfold ixV at e
  split at e
  case h_3 => cases e
  all_goals
    first
      | next el _ _ _ a len cp k n ht =>
        obtain ⟨hd, _⟩ := hT _ _ ht
        cases hft : T el with
        | none => rw [hft] at e; cases e
        | some te =>
          rw [hft] at e
          dsimp only at e
          obtain ⟨_, i, z, hi, hs, _⟩ := hT _ _ hft
          split at e
          · next hb =>
            cases e
            simp only [Instr.indexAt, asIntOf, hwp_bind', hwp_underlying hd, hwp_pure]
            rw [if_pos hb]
            simp only [hwp_bind', hwp_sizeOf hi, hs, hwp_pure]
            exact q
          · cases e
      | next len el _ _ _ a k n ht =>
        obtain ⟨hd, _⟩ := hT _ _ ht
        cases hft : T el with
        | none => rw [hft] at e; cases e
        | some te =>
          rw [hft] at e
          dsimp only at e
          obtain ⟨_, i, z, hi, hs, _⟩ := hT _ _ hft
          split at e
          · next hb =>
            cases e
            simp only [Instr.indexAt, asIntOf, hwp_bind', hwp_underlying hd, hwp_pure, Instr.sureAddr]
            rw [if_pos hb]
            simp only [hwp_bind', hwp_sizeOf hi, hs, hwp_pure]
            exact q
          · cases e

theorem hwp_eqBool {t : TypeId} (hd : P.underlying t = some .bool) (d : Nat) (a b : Bool) {Q : Bool → Heap → Prop} (q : Q (a == b) h) : hwp P (Op.equalIn (d + 1) t (.bool a) (.bool b)) Q E h := by
  simp only [Op.equalIn, hwp_bind', hwp_underlying hd]
  exact q

theorem hwp_eqInt {t : TypeId} {kk : IntKind} (hd : P.underlying t = some (.int kk)) (d : Nat) (k : IntKind) (a b : Int) {Q : Bool → Heap → Prop} (q : Q (a == b) h) : hwp P (Op.equalIn (d + 1) t (.int k a) (.int k b)) Q E h := by
  simp only [Op.equalIn, hwp_bind', hwp_underlying hd, if_true]
  exact q
theorem hwp_guardInt {t : TypeId} {kk : IntKind} (hd : P.underlying t = some (.int kk)) (d : Nat) (k : IntKind) (a b : Int) {Q : Bool → Heap → Prop} (q : Q false h) : hwp P (Op.eqGuardIn (d + 1) t (.int k a) (.int k b)) Q E h := by
  simp only [Op.eqGuardIn, hwp_bind', hwp_underlying hd]
  exact q

theorem hwp_partInt {t : TypeId} {kk : IntKind} (hd : P.underlying t = some (.int kk)) {cs : Array Value} {off : Nat} {v : Value} (e : cs[off]? = some v) {Q : Value → Heap → Prop} (q : Q v h) : hwp P (part t cs off) Q E h := by
  simp only [part, hwp_bind', hwp_isAgg hd]
  rw [if_neg (by simp [aggD]), e]
  exact q

theorem hwp_loop_eq (hT : TOK P T) {xs ys : Array Value} {body : Field → Option Bool × Unit → Sem (ForInStep (Option Bool × Unit))}
    (hb : ∀ (f : Field) (kk k : IntKind) (a c : Int), P.underlying f.type = some (.int kk) → xs[f.offset]? = some (.int k a) → ys[f.offset]? = some (.int k c) →
      ∀ (R : ForInStep (Option Bool × Unit) → Heap → Prop), R (if (f.name == "_" || a == c) = true then .yield (none, ()) else .done (some false, ())) h → hwp P (body f (none, ())) R E h) (fs : List Field) :
    ∀ (b : Bool), eqL T fs xs ys = some b → ∀ (R : Option Bool × Unit → Heap → Prop), R (if b = true then (none, ()) else (some false, ())) h → hwp P (forIn fs (none, ()) body) R E h := by
  induction fs with
  | nil => intro b e R r; cases e; exact r
  | cons f fs ih =>
    intro b e R r
    simp only [eqL] at e
    split at e
    case h_2 => cases e
    next kk _ _ _ k a k' c h1 h2 h3 =>
    split at e
    case isFalse => cases e
    next hk =>
    subst hk
    obtain ⟨hd, _⟩ := hT _ _ h1
    cases hr : eqL T fs xs ys with
    | none => rw [hr] at e; cases e
    | some b' =>
      rw [hr] at e
      simp only [Option.map_some, Option.some.injEq] at e
      rw [List.forIn_cons]
      refine (hwp_bind' _ _ _).2 (hb f kk k a c hd h2 h3 _ ?_)
      cases hc : (f.name == "_" || a == c) with
      | true =>
        rw [hc, Bool.true_and] at e
        exact ih b' hr R (by rw [e]; exact r)
      | false =>
        have : b = false := by rw [← e, hc]; rfl
        rw [this] at r
        exact r

theorem hwp_eqStruct {t : TypeId} (hT : TOK P T) {fs : Array Field} {a1 a2 : Nat} {a3 : Array Value} (ht : T t = some ⟨.struct fs, a1, a2, a3⟩) {xs ys : Array Value} {b : Bool} (e : eqL T fs.toList xs ys = some b) (d : Nat) {Q : Bool → Heap → Prop} (q : Q b h) :
    hwp P (Op.equalIn (d + 2) t (.agg xs) (.agg ys)) Q E h := by
  obtain ⟨hd, i, zv, hi, hs, hb, hz, hc, hst⟩ := hT _ _ ht
  obtain ⟨k, hk⟩ : ∃ k, k = d + 1 := ⟨_, rfl⟩
  rw [show d + 2 = k + 1 by omega]
  simp only [Op.equalIn, hwp_bind', hwp_underlying hd, hwp_program, hst]
  rw [if_neg (by simp)]
  rw [hwp_bind', ← Array.forIn_toList]
  refine hwp_loop_eq hT (fun f kk k1 a c h1 h2 h3 R r => ?_) _ b e _ ?_
  · subst hk
    split
    · next hn =>
      rw [hwp_bind']
      refine hwp_partInt h1 h2 ?_
      rw [hwp_bind']
      refine hwp_partInt h1 h3 ?_
      rw [hwp_bind']
      refine hwp_eqInt h1 _ _ _ _ ?_
      have hn' : (f.name == "_") = false := by simpa using hn
      rw [hn', Bool.false_or] at r
      by_cases hac : a = c
      · simp only [hac, beq_self_eq_true, if_true] at r ⊢
        exact r
      · have : (a == c) = false := by simpa using hac
        simp only [this, Bool.false_eq_true, if_false] at r ⊢
        exact r
    · next hn =>
      have hn' : (f.name == "_") = true := by simpa using hn
      rw [hn', Bool.true_or] at r
      exact r
  · cases b <;> exact q

theorem hwp_loop_guard (hT : TOK P T) {xs ys : Array Value} {body : Field → Option Bool × Unit → Sem (ForInStep (Option Bool × Unit))}
    (hb : ∀ (f : Field) (kk k : IntKind) (a c : Int), P.underlying f.type = some (.int kk) → xs[f.offset]? = some (.int k a) → ys[f.offset]? = some (.int k c) →
      ∀ (R : ForInStep (Option Bool × Unit) → Heap → Prop), R (.yield (none, ())) h → hwp P (body f (none, ())) R E h) (fs : List Field) :
    ∀ (b : Bool), eqL T fs xs ys = some b → ∀ (R : Option Bool × Unit → Heap → Prop), R (none, ()) h → hwp P (forIn fs (none, ()) body) R E h := by
  induction fs with
  | nil => intro b e R r; exact r
  | cons f fs ih =>
    intro b e R r
    simp only [eqL] at e
    split at e
    case h_2 => cases e
    next kk _ _ _ k a k' c h1 h2 h3 =>
    split at e
    case isFalse => cases e
    next hk =>
    subst hk
    obtain ⟨hd, _⟩ := hT _ _ h1
    cases hr : eqL T fs xs ys with
    | none => rw [hr] at e; cases e
    | some b' =>
      rw [List.forIn_cons]
      exact (hwp_bind' _ _ _).2 (hb f kk k a c hd h2 h3 _ (ih b' hr R r))

theorem hwp_guardStruct {t : TypeId} (hT : TOK P T) {fs : Array Field} {a1 a2 : Nat} {a3 : Array Value} (ht : T t = some ⟨.struct fs, a1, a2, a3⟩) {xs ys : Array Value} {b : Bool} (e : eqL T fs.toList xs ys = some b) (d : Nat) {Q : Bool → Heap → Prop} (q : Q false h) :
    hwp P (Op.eqGuardIn (d + 2) t (.agg xs) (.agg ys)) Q E h := by
  obtain ⟨hd, i, zv, hi, hs, hb, hz, hc, hst⟩ := hT _ _ ht
  obtain ⟨k, hk⟩ : ∃ k, k = d + 1 := ⟨_, rfl⟩
  rw [show d + 2 = k + 1 by omega]
  simp only [Op.eqGuardIn, hwp_bind', hwp_underlying hd]
  rw [← Array.forIn_toList]
  refine hwp_loop_guard hT (fun f kk k1 a c h1 h2 h3 R r => ?_) _ b e _ ?_
  · subst hk
    split
    · next hn =>
      rw [hwp_bind']
      refine hwp_partInt h1 h2 ?_
      rw [hwp_bind']
      refine hwp_partInt h1 h3 ?_
      rw [hwp_bind']
      refine hwp_guardInt h1 _ _ _ _ ?_
      exact r
    · exact r
  · exact q

theorem hwp_binOp {t : TypeId} (hT : TOK P T) {op : BinOp} {xo yo : Operand} {x y v : Value} (e : binV T op t x y = some v) {Q : Value → Heap → Prop} (q : Q v h) :
    hwp P (do eqGuard op t xo yo x y; binOp op t x y) Q E h := by
  have g1 : ∀ (R : Unit → Heap → Prop) k a b, R () h → hwp P (eqGuard op t xo yo (.int k a) (.int k b)) R E h := by
    intro R k a b r
    cases op <;> exact r
  have g2 : ∀ (R : Unit → Heap → Prop) a b, R () h → hwp P (eqGuard op t xo yo (.bool a) (.bool b)) R E h := by
    intro R a b r
    cases op <;> exact r
  unfold binV at e
  split at e
  · next k a k' b =>
    split at e
    · next hk =>
      subst hk
      simp only [hwp_bind']
      refine g1 _ _ _ _ ?_
      cases op <;> simp only [binOp, ne_eq, not_true_eq_false, if_false, Op.intArith, Op.intDiv, Op.intBits, Op.intCmp, Op.shift] at e ⊢ <;>
        first
          | (cases e; exact q)
          | (split at e <;> rename_i hb <;> first | cases e; done | (cases e; rw [if_neg hb]; exact q))
          | (cases e; done)
    · cases e
  · next a b =>
    split at e
    · next ht =>
      obtain ⟨hd, _⟩ := hT _ _ ht
      simp only [hwp_bind']
      refine g2 _ _ _ ?_
      cases op <;> dsimp only at e <;> first | (cases e; done) | skip
      · cases e
        change hwp P (Op.equalIn (9999 + 1) t (.bool a) (.bool b) >>= fun r => pure (.bool r)) Q E h
        exact (hwp_bind' _ _ _).2 (hwp_eqBool hd _ _ _ q)
      · cases e
        change hwp P (Op.equalIn (9999 + 1) t (.bool a) (.bool b) >>= fun r => pure (.bool !r)) Q E h
        exact (hwp_bind' _ _ _).2 (hwp_eqBool hd _ _ _ q)
    · cases e
  · next xs ys =>
    split at e
    · next fs _ _ _ ht =>
      have hq : ∃ b, eqL T fs.toList xs ys = some b := by
        cases h : eqL T fs.toList xs ys with
        | some b => exact ⟨b, rfl⟩
        | none => rw [h] at e; cases op <;> cases e
      obtain ⟨b, hb⟩ := hq
      rw [hb] at e
      have g3 : ∀ (R : Unit → Heap → Prop), R () h → (op = .eql ∨ op = .neq) → hwp P (eqGuard op t xo yo (.agg xs) (.agg ys)) R E h := by
        intro R r ho
        have : (match op with | .eql | .neq => true | _ => false) = true := by rcases ho with rfl | rfl <;> rfl
        have e1 : hwp P (do
            if !(← program).eqGuardType (← program).depth t then return
            if ← Op.eqGuardIn Op.maxDepth t (.agg xs) (.agg ys) then unsupported (.noEntry "binop/eql: two nil values of an interface type with methods, in a part of a struct or an array") : Sem Unit) R E h := by
          simp only [hwp_bind', hwp_program]
          split
          · exact r
          · simp only [hwp_bind']
            refine hwp_guardStruct hT ht hb 9998 ?_
            exact r
        rcases ho with rfl | rfl <;> exact e1
      simp only [hwp_bind']
      cases op <;> dsimp only at e <;> first | (cases e; done) | skip
      · cases e
        refine g3 _ ?_ (.inl rfl)
        change hwp P (Op.equalIn (9998 + 2) t (.agg xs) (.agg ys) >>= fun r => pure (.bool r)) Q E h
        exact (hwp_bind' _ _ _).2 (hwp_eqStruct hT ht hb _ q)
      · cases e
        refine g3 _ ?_ (.inr rfl)
        change hwp P (Op.equalIn (9998 + 2) t (.agg xs) (.agg ys) >>= fun r => pure (.bool !r)) Q E h
        exact (hwp_bind' _ _ _).2 (hwp_eqStruct hT ht hb _ q)
    · cases e
  · cases e

theorem hwp_unary {op : UnOp} {x v : Value} (e : unV op x = some v) {Q : Value → Heap → Prop} (q : Q v h) : hwp P (Op.unary op x) Q E h := by
  unfold unV at e
  split at e
  · cases e; simp only [Op.unary, Op.intArith]; exact q
  · cases e; simp only [Op.unary]; exact q
  · cases e

theorem hwp_convert {s d : TypeId} (hT : TOK P T) {x v : Value} (e : cvV T s d x = some v) {Q : Value → Heap → Prop} (q : Q v h) : hwp P (convert s d x) Q E h := by
  unfold cvV at e
  split at e
  · next k _ _ _ k' n hs hd =>
    obtain ⟨h1, _⟩ := hT _ _ hs
    obtain ⟨h2, _⟩ := hT _ _ hd
    cases e
    simp only [convert, hwp_bind', hwp_underlying h1, hwp_underlying h2]
    exact q
  · cases e

theorem hwp_makeInterface {t : TypeId} (hT : TOK P T) {x v : Value} (e : mkiV T t x = some v) {Q : Value → Heap → Prop} (q : Q v h) : hwp P (Instr.makeInterface t x) Q E h := by
  unfold mkiV at e
  split at e
  · cases e
  · next ti hn ht =>
    obtain ⟨h1, _⟩ := hT _ _ ht
    cases e
    simp only [Instr.makeInterface, hwp_bind', hwp_underlying h1]
    split
    · next ms hd =>
      obtain ⟨d, s1, s2, s3⟩ := ti
      simp only at hd
      subst hd
      exact (hn ms s1 s2 s3 rfl).elim
    · exact q
  · cases e

theorem hwp_field {t : TypeId} (hT : TOK P T) {x v : Value} {f : Nat} (e : fieldV T t x f = some v) {Q : Value → Heap → Prop} (q : Q v h) : hwp P (Instr.field t x f) Q E h := by
  unfold fieldV at e
  split at e
  case h_2 => cases e
  next fs _ _ _ cs ht =>
  obtain ⟨hd, _⟩ := hT _ _ ht
  cases hf : fs[f]? with
  | none => rw [hf] at e; cases e
  | some fd =>
    rw [hf] at e
    dsimp only at e
    cases hft : T fd.type with
    | none => rw [hft] at e; cases e
    | some ti =>
      rw [hft] at e
      simp only [Instr.field, hwp_bind', hwp_underlying hd, hf, asAgg, hwp_pure]
      exact hwp_part hT hft e q

theorem hwp_index {t : TypeId} (hT : TOK P T) {x y v : Value} (e : indexV T t x y = some v) {Q : Value → Heap → Prop} (q : Q v h) : hwp P (Instr.index t x y) Q E h := by
  unfold indexV at e
  split at e
  case h_2 => cases e
  next len el _ _ _ cs k n ht =>
  obtain ⟨hd, _⟩ := hT _ _ ht
  cases hft : T el with
  | none => rw [hft] at e; cases e
  | some te =>
    rw [hft] at e
    dsimp only at e
    obtain ⟨_, i, z, hi, hs, _⟩ := hT _ _ hft
    split at e
    · next hb =>
      simp only [Instr.index, asIntOf, hwp_bind', hwp_underlying hd, hwp_pure]
      rw [if_pos hb]
      simp only [hwp_bind', hwp_sizeOf hi, hs]
      exact hwp_part hT hft e q
    · cases e

theorem hwp_extract {x v : Value} {i : Nat} (e : extV x i = some v) {Q : Value → Heap → Prop} (q : Q v h) : hwp P (Instr.extract x i) Q E h := by
  unfold extV at e
  split at e
  · simp only [Instr.extract, e]; exact q
  · cases e

theorem hwp_pick {c a b v : Value} (e : pickV c a b = some v) {Q : Next → Heap → Prop} (q : Q (.value v) h) :
    hwp P (do pure (Next.value (if ← asBool c then a else b))) Q E h := by
  unfold pickV at e
  split at e
  · cases e; simp only [asBool, hwp_bind', hwp_pure]; exact q
  · cases e

theorem hwp_places (hT : TOK P T) (fs : List Field) : ∀ (l : List (Nat × Nat)), placesV T fs = some l → ∀ {Q : List (Nat × Nat) → Heap → Prop}, Q l h →
    hwp P (fs.mapM fun f => do pure (f.offset, ← sizeOf f.type)) Q E h := by
  induction fs with
  | nil => intro l e Q q; cases e; simpa [hwp_pure] using q
  | cons f r ih =>
    intro l e Q q
    simp only [placesV] at e
    split at e
    · next ti l' h1 h2 =>
      cases e
      obtain ⟨_, i, z, hi, hs, _⟩ := hT _ _ h1
      simp only [List.mapM_cons, hwp_bind', hwp_sizeOf hi, hwp_pure, hs]
      exact ih _ h2 q
    · cases e

theorem hwp_build {t : TypeId} (hT : TOK P T) {parts : Array (Nat × Value)} {v : Value} (e : buildV T t parts = some v) {Q : Value → Heap → Prop} (q : Q v h) : hwp P (Instr.build t parts) Q E h := by
  unfold buildV at e
  split at e
  · next fs sz by_ z ht =>
    obtain ⟨hd, i, zv, hi, hs, hb, hz, hc, _⟩ := hT _ _ ht
    split at e
    · next l hl =>
      cases hf : Instr.fill (fun x => l.toArray[x]?) z parts.toList with
      | none => rw [hf] at e; cases e
      | some cs =>
        rw [hf] at e
        cases e
        simp only [Instr.build, hwp_bind', hwp_zeroValue hi hz, hwp_underlying hd]
        rw [Array.mapM_eq_mapM_toList]
        simp only [hwp_bind', Functor.map, hwp_pure]
        refine (hwp_bind P _ _ _ _ _).2 (hwp_places hT _ l hl ?_)
        simp only [hwp, Function.comp, hc]
        rw [hf]
        exact q
    · cases e
  · next n el sz by_ z ht =>
    obtain ⟨hd, i, zv, hi, hs, hb, hz, hc, _⟩ := hT _ _ ht
    split at e
    · next te hte =>
      obtain ⟨_, i', z', hi', hs', _⟩ := hT _ _ hte
      cases hf : Instr.fill (fun i => some (i * te.size, te.size)) z parts.toList with
      | none => rw [hf] at e; cases e
      | some cs =>
        rw [hf] at e
        cases e
        simp only [Instr.build, hwp_bind', hwp_zeroValue hi hz, hwp_underlying hd, hwp_sizeOf hi', hs', hc]
        rw [hf]
        exact q
    · cases e
  · cases e

theorem hwp_bound {x : Value} {y n : Nat} {code : BoundsCode} (e : boundV (some x) y 0 = some n) {Q : Nat → Heap → Prop} (q : Q n h) : hwp P (Instr.sliceBound x y code) Q E h := by
  unfold boundV at e
  split at e
  · next he => cases he
  · next k i he =>
    cases he
    split at e
    · next hb =>
      cases e
      simp only [Instr.sliceBound, asIntOf, hwp_bind', hwp_pure]
      rw [if_pos hb]
      exact q
    · cases e
  · cases e

theorem boundV_d {x : Value} {y d : Nat} : boundV (some x) y d = boundV (some x) y 0 := by cases x <;> rfl

theorem hwp_slice {t : TypeId} (hT : TOK P T) {x v : Value} {lo hi mx : Option Value} (e : slV T t x lo hi mx = some v) {Q : Value → Heap → Prop} (q : Q v h) :
    hwp P (Instr.sliceAt t x lo hi mx) Q E h := by
  unfold slV at e
  split at e
  case h_2 => cases e
  next el _ _ _ a len cap ht =>
  obtain ⟨hd, _⟩ := hT _ _ ht
  split at e
  · next te hh hte hhi =>
    obtain ⟨_, i, z, hi', hs, _⟩ := hT _ _ hte
    split at e
    · next l hlo =>
      cases e
      have q' : hwp P (Instr.slice t (.slice a len cap) lo hi none) Q E h := by
        have fin : hwp P (sizeOf el) (fun size h => Q (.slice (if cap = l then a else a.map (·.add (l * size))) (hh - l) (cap - l)) h) E h := by
          rw [hwp_sizeOf hi', hs]
          exact q
        cases hi with
        | none =>
          simp only [boundV, Option.some.injEq] at hhi
          subst hhi
          cases lo with
          | none =>
            simp only [boundV, Option.some.injEq] at hlo
            subst hlo
            simp only [Instr.slice, hwp_bind', hwp_underlying hd, Instr.sliceBounds, hwp_pure]
            exact fin
          | some y =>
            simp only [Instr.slice, hwp_bind', hwp_underlying hd, Instr.sliceBounds, hwp_pure]
            exact hwp_bound hlo fin
        | some x =>
          rw [boundV_d] at hhi
          cases lo with
          | none =>
            simp only [boundV, Option.some.injEq] at hlo
            subst hlo
            simp only [Instr.slice, hwp_bind', hwp_underlying hd, Instr.sliceBounds, hwp_pure]
            exact hwp_bound hhi fin
          | some y =>
            simp only [Instr.slice, hwp_bind', hwp_underlying hd, Instr.sliceBounds, hwp_pure]
            exact hwp_bound hhi (hwp_bound hlo fin)
      simp only [Instr.sliceAt, hwp_bind', hwp_underlying hd]
      exact q'
    · cases e
  · cases e

end
end Go.HW
