/- What is asked of one operation suffices: the operations that make memory, and calls. -/
import Derived.Test.YthchjolcjicpgaaSound
namespace Go.HW

section
variable {P : Program} {T : TT} {α β : Type} {E : Value → Heap → Prop} {h : Heap}

theorem hwp_len {t ty : TypeId} (hT : TOK P T) {x v : Value} (e : lenV T t x = some v) {Q : Value → Heap → Prop} (q : Q v h) : hwp P (Builtin.len_ #[t] ty #[x]) Q E h := by
  unfold lenV at e
  split at e
  · next ht =>
    obtain ⟨hd, _⟩ := hT _ _ ht
    cases e
    simp only [Builtin.len_, List.getElem?_toArray, List.getElem?_cons_zero, hwp_bind', hwp_underlying hd]
    exact q
  · next ht =>
    obtain ⟨hd, _⟩ := hT _ _ ht
    cases e
    simp only [Builtin.len_, List.getElem?_toArray, List.getElem?_cons_zero, hwp_bind', hwp_underlying hd]
    exact q
  · cases e

theorem hwp_min {ts : Array TypeId} {ty : TypeId} {x y v : Value} (e : min2V x y = some v) {Q : Value → Heap → Prop} (q : Q v h) : hwp P (Builtin.min_ ts ty #[x, y]) Q E h := by
  unfold min2V at e
  split at e
  · cases e
    simp only [Builtin.min_, List.foldlM_cons, List.foldlM_nil, Builtin.min2, hwp_bind', hwp_pure]
    exact q
  · cases e
theorem hwp_max {ts : Array TypeId} {ty : TypeId} {x y v : Value} (e : max2V x y = some v) {Q : Value → Heap → Prop} (q : Q v h) : hwp P (Builtin.max_ ts ty #[x, y]) Q E h := by
  unfold max2V at e
  split at e
  · cases e
    simp only [Builtin.max_, List.foldlM_cons, List.foldlM_nil, Builtin.max2, hwp_bind', hwp_pure]
    exact q
  · cases e

theorem asN_int {x : Value} {n : Nat} (e : asN x = some n) : ∃ k, x = .int k n ∧ (n : Int) ≤ 9223372036854775807 := by
  unfold asN at e
  split at e
  · next k i =>
    split at e
    · cases e
      refine ⟨k, ?_, by omega⟩
      congr 1
      omega
    · cases e
  · cases e

theorem wrap_nat {n : Nat} (h : (n : Int) ≤ 9223372036854775807) : IntKind.i64.wrap n = n := by
  unfold IntKind.wrap
  simp [IntKind.bits, IntKind.signed]
  omega

theorem hwp_askRoom (b : Nat) {Q : Unit → Heap → Prop} (q : Q () h) : hwp P (askRoom b) Q E h := by
  unfold askRoom
  split
  · exact q
  · exact q

theorem hwp_makeSlice {t : TypeId} (hT : TOK P T) {tm : Tm} {l c : Operand} {K : Value → Heap → Prop} {vf : Nat → Value} {cs : Array Value} {et : TypeId} (he : alV T tm (.makeSlice t l c) = some (vf, cs, et))
    (k : ∀ r, h.fresh r → K (vf r) (h.new r cs et)) : hwp P (Instr.makeSlice t (ev tm l) (ev tm c)) K E h := by
  simp only [alV, msV] at he
  split at he
  case h_2 => cases he
  next el _ _ _ n m ht hn hm =>
  obtain ⟨hd, _⟩ := hT _ _ ht
  cases hte : T el with
  | none => rw [hte] at he; cases he
  | some te' =>
    rw [hte] at he
    dsimp only at he
    split at he
    case isFalse => cases he
    next hcond =>
    obtain ⟨hle, hby⟩ := hcond
    cases he
    obtain ⟨_, i, z, hi, hs, hb, hz, hc, _⟩ := hT _ _ hte
    generalize ev tm l = l at hn ⊢
    generalize ev tm c = c at hm ⊢
    obtain ⟨k1, rfl, hn'⟩ := asN_int hn
    obtain ⟨k2, rfl, hm'⟩ := asN_int hm
    simp only [Instr.makeSlice, hwp_bind', hwp_underlying hd, asInt, asIntOf, hwp_pure, hwp_typeInfo hi, hb, wrap_nat hn', wrap_nat hm', hwp_sizeOf hi, hs]
    have hby' : ((te'.bytes * m : Nat) : Int) ≤ 281474976710656 := by omega
    rw [Int.natCast_mul] at hby'
    have c1 : (decide ((m : Int) < 0) || decide ((te'.bytes : Int) * (m : Int) > 2 ^ 48)) = false := by
      simp only [Bool.or_eq_false_iff, decide_eq_false_iff_not]
      constructor
      · omega
      · have : (2 : Int) ^ 48 = 281474976710656 := by decide
        omega
    have c2 : ((decide ((m : Int) < 0) || decide ((te'.bytes : Int) * (m : Int) > 2 ^ 48)) || decide ((n : Int) < 0) || decide ((n : Int) > (m : Int))) = false := by
      rw [c1]
      simp only [Bool.false_or, Bool.or_eq_false_iff, decide_eq_false_iff_not]
      omega
    rw [if_neg (fun hh => by rw [c2] at hh; cases hh)]
    simp only [hwp_bind', hwp_pure]
    refine hwp_askRoom _ ?_
    simp only [Int.toNat_natCast, hwp_sizeOf hi, hs]
    split
    · next h0 =>
      simp only [hwp_pure, h0, hwp_bind']
      refine hwp_newRow fun r hr => ?_
      have := k r hr
      rw [h0] at this
      have e1 : ∀ f : Nat → Value, Array.map f (Array.range 0) = #[] := fun f => by simp [← Array.toList_inj, Array.toList_range]
      unfold zrow at this
      rw [e1] at this ⊢
      exact this
    · next h0 =>
      simp only [hwp_bind', hwp_zeroValue hi hz, hwp_pure, hc]
      exact hwp_newRow fun r hr => k r hr

theorem hwp_buildSlice {t : TypeId} (hT : TOK P T) {len : Nat} {parts : Array (Nat × Value)} {e : TypeId} {cs : Array Value} (he : bslV T t len parts = some (e, cs)) {K : Value → Heap → Prop}
    (k : ∀ r, h.fresh r → K (.slice (some ⟨r, 0, none⟩) len len) (h.new r cs e)) : hwp P (Instr.buildSlice t len parts) K E h := by
  unfold bslV at he
  split at he
  case h_2 => cases he
  next el _ _ _ ht =>
  obtain ⟨hd, _⟩ := hT _ _ ht
  split at he
  case h_2 => cases he
  next te hte =>
  obtain ⟨_, i, z, hi, hs, hb, hz, hc, _⟩ := hT _ _ hte
  split at he
  case isFalse => cases he
  next hle =>
  cases hf : Instr.fill (fun i => some (i * te.size, te.size)) (if len * te.size = 0 then #[] else zrow te.zero (len * te.size)) parts.toList with
  | none => rw [hf] at he; cases he
  | some cs' =>
    rw [hf] at he
    cases he
    simp only [Instr.buildSlice, hwp_bind', hwp_underlying hd, hwp_sizeOf hi, hs]
    rw [if_neg (by have : (2 : Nat) ^ 24 = 16777216 := by decide
                   omega)]
    split at hf
    · next h0 =>
      rw [if_pos h0]
      simp only [h0, hwp_bind', hwp_pure]
      have e0 : (Array.map (fun x => (#[] : Array Value)[x % (#[] : Array Value).size]!) (Array.range 0)) = #[] := by simp
      rw [e0, hf]
      simp only [hwp_bind']
      exact hwp_newRow fun r hr => k r hr
    · next h0 =>
      rw [if_neg h0]
      simp only [hwp_bind', hwp_zeroValue hi hz, hwp_pure, hc]
      unfold zrow at hf
      rw [hf]
      simp only [hwp_bind']
      exact hwp_newRow fun r hr => k r hr

theorem hwp_firstCells {size m : Nat} {x : Value} {l : List Value} (e : srcV h size x = some (m, l)) {Q : Array Value → Heap → Prop} (q : Q l.toArray h) : hwp P (Builtin.firstCells size m x) Q E h := by
  unfold srcV at e
  split at e
  · next n _ =>
    split at e
    · cases e; simp only [Builtin.firstCells]; exact q
    · cases e
  · next a n _ =>
    cases hc : cellsL h a 0 (n * size) with
    | none => rw [hc] at e; cases e
    | some l' =>
      rw [hc] at e
      simp only [Option.map_some, Option.some.injEq, Prod.mk.injEq] at e
      obtain ⟨rfl, rfl⟩ := e
      simp only [Builtin.firstCells, loadCells]
      exact hwp_loadCells _ _ _ _ hc (by simpa using q)
  · cases e

theorem hwp_lenOf {size m : Nat} {x : Value} {l : List Value} (e : srcV h size x = some (m, l)) {Q : Nat → Heap → Prop} (q : Q m h) : hwp P (Builtin.lenOf x) Q E h := by
  unfold srcV at e
  split at e
  · next n _ =>
    split at e
    · next h0 => cases e; simp only [Builtin.lenOf, h0]; exact q
    · cases e
  · next a n _ =>
    cases hc : cellsL h a 0 (n * size) with
    | none => rw [hc] at e; cases e
    | some l' =>
      rw [hc] at e
      simp only [Option.map_some, Option.some.injEq, Prod.mk.injEq] at e
      obtain ⟨rfl, rfl⟩ := e
      exact q
  · cases e

theorem cellsL_len (a : Addr) (n : Nat) : ∀ (i : Nat) (l : List Value), cellsL h a i n = some l → l.length = n := by
  induction n with
  | zero => intro i l e; cases e; rfl
  | succ n ih =>
    intro i l e
    simp only [cellsL] at e
    split at e
    · next h1 h2 => cases e; simp [ih _ _ h2]
    · cases e

theorem srcV_len {size m : Nat} {A : Option Addr} {n c : Nat} {l : List Value} (e : srcV h size (.slice A n c) = some (m, l)) : l.length = n * size := by
  unfold srcV at e
  split at e
  · next h0 =>
    cases h0
    split at e
    · next h1 => cases e; simp [h1]
    · cases e
  · next h0 =>
    cases h0
    cases hc : cellsL h _ 0 (n * size) with
    | none => rw [hc] at e; cases e
    | some l' =>
      rw [hc] at e
      simp only [Option.map_some, Option.some.injEq, Prod.mk.injEq] at e
      obtain ⟨rfl, rfl⟩ := e
      exact cellsL_len _ _ _ _ hc
  · cases e

theorem srcV_len2 {size m : Nat} {x : Value} {l : List Value} (e : srcV h size x = some (m, l)) : l.length = m * size := by
  unfold srcV at e
  split at e
  · split at e
    · cases e; simp
    · cases e
  · next n _ =>
    cases hc : cellsL h _ 0 (n * size) with
    | none => rw [hc] at e; cases e
    | some l' =>
      rw [hc] at e
      simp only [Option.map_some, Option.some.injEq, Prod.mk.injEq] at e
      obtain ⟨rfl, rfl⟩ := e
      exact cellsL_len _ _ _ _ hc
  · cases e

theorem srcV_fst {size m : Nat} {A : Option Addr} {n c : Nat} {l : List Value} (e : srcV h size (.slice A n c) = some (m, l)) : m = n := by
  unfold srcV at e
  split at e
  · next h0 =>
    cases h0
    split at e
    · next h1 => cases e; exact h1.symm
    · cases e
  · next h0 =>
    cases h0
    cases hc : cellsL h _ 0 (n * size) with
    | none => rw [hc] at e; cases e
    | some l' => rw [hc] at e; cases e; rfl
  · cases e

theorem growBy_le (need : Nat) : ∀ rounds c, c ≤ 2 * need + 256 → Builtin.growBy need rounds c ≤ 2 * need + 256 := by
  intro rounds
  induction rounds with
  | zero => exact fun c hc => hc
  | succ n ih =>
    intro c hc
    simp only [Builtin.growBy]
    split
    · exact hc
    · exact ih _ (by omega)

theorem nextcap_le {need cap : Nat} (h : cap < need) : Builtin.nextslicecap need cap ≤ 2 * need + 512 := by
  unfold Builtin.nextslicecap
  split
  · omega
  · split
    · omega
    · have := growBy_le need 4 cap (by omega)
      omega

/-- One more than there is room for. -/
theorem nextcap_one {cap : Nat} : Builtin.nextslicecap (cap + 1) cap ≤ cap + cap / 4 + 512 := by
  unfold Builtin.nextslicecap
  split
  · omega
  · split
    · omega
    · simp only [Builtin.growBy]
      split
      · omega
      · split
        · omega
        · omega

theorem zeroCells_size (z : Array Value) (n : Nat) : (Builtin.zeroCells z n).size = n * z.size := by simp [Builtin.zeroCells]

theorem hwp_append {t ty : TypeId} (hT : TOK P T) {s x : Value} {K : Value → Heap → Prop} (m : AP T t s x K h) : hwp P (Builtin.append_ #[t, t] ty #[s, x]) K E h := by
  obtain ⟨⟨e, te⟩, he, H⟩ := PV.out m
  dsimp only at H
  split at H
  case h_2 => exact H.elim
  next A len cap =>
  obtain ⟨⟨m, xs⟩, hx, hzs, hby, hbig, hin, hout⟩ := PV.out H
  dsimp only at hbig hin hout
  unfold elemT at he
  split at he
  case h_2 => cases he
  next el _ _ _ ht =>
  obtain ⟨hd, _⟩ := hT _ _ ht
  cases hte : T el with
  | none => rw [hte] at he; cases he
  | some te' =>
    rw [hte] at he
    simp only [Option.map_some, Option.some.injEq, Prod.mk.injEq] at he
    obtain ⟨rfl, rfl⟩ := he
    obtain ⟨_, i, z, hi, hs, hb, hz, hc, _⟩ := hT _ _ hte
    have hm : (TypeDesc.slice el matches .int _) = false := rfl
    simp only [Builtin.append_, List.getElem?_toArray, List.getElem?_cons_zero, List.getElem?_cons_succ, hwp_bind', hwp_underlying hd, hwp_sizeOf hi, hs, hwp_pure, Bool.false_eq_true, if_false,
      Bool.not_false, if_true]
    refine hwp_lenOf hx ?_
    split
    · next hle =>
      have hin := hin hle
      simp only [hwp_bind']
      refine hwp_firstCells hx ?_
      cases A with
      | none => exact hin
      | some a =>
        obtain ⟨h', e', k⟩ := PV.out hin
        simp only [hwp_bind']
        exact hwp_storeCells _ _ _ _ e' k
    · next hlt =>
      have hlt' : cap < len + m := by omega
      obtain ⟨⟨n', old⟩, ho, k⟩ := PV.out (hout hlt')
      obtain rfl : len = n' := (srcV_fst ho).symm
      have hbig := hbig hlt'
      simp only [hwp_bind', hwp_typeInfo hi, hb]
      rw [if_neg (by intro h; rcases h.2 with h | h
                     · exact h
                     · omega)]
      simp only [hwp_bind', hwp_typeInfo hi, hb]
      have h48 : ¬ (Builtin.nextslicecap (len + m) cap * te'.bytes > 2 ^ 48) := by
        have h2 : (2 : Nat) ^ 48 = 281474976710656 := by decide
        omega
      rw [if_neg h48]
      simp only [hwp_bind']
      refine (if_neg (by simp [Question.forced])).mpr fun tape => ?_
      simp only [hwp, hwp_bind', hwp_typeInfo hi, hb]
      refine hwp_askRoom _ ?_
      refine hwp_firstCells ho ?_
      refine hwp_firstCells hx ?_
      have hlen : old.length = len * te'.size ∧ xs.length = m * te'.size := ⟨srcV_len ho, srcV_len2 hx⟩
      have hcap : len + m ≤ (Question.appendCap (len + m) cap el).cut tape := by simp [Question.cut]
      generalize (Question.appendCap (len + m) cap el).cut tape = c at hcap ⊢
      simp only [hwp_bind', hwp_zeroValue hi hz, hc]
      have hsz : (old.toArray ++ xs.toArray ++ Builtin.zeroCells te'.zero (c - (len + m))).size = c * te'.size := by
        simp only [Array.size_append, List.size_toArray, zeroCells_size, hlen, hzs]
        rw [← Nat.add_mul, ← Nat.add_mul]
        congr 1
        omega
      refine hwp_newRowP (l := old ++ xs) ?_ fun r hr => ?_
      · intro i hi
        rw [Array.getElem?_append_left (by simpa using hi)]
        simp
      · rw [hsz]
        exact k r c hr hcap

theorem hwp_copy {t t' ty : TypeId} (hT : TOK P T) {s x : Value} {K : Value → Heap → Prop} (H0 : CP T t s x K h) : hwp P (Builtin.copy_ #[t, t'] ty #[s, x]) K E h := by
  obtain ⟨⟨e, te⟩, he, H⟩ := PV.out H0
  dsimp only at H
  split at H
  case h_2 => exact H.elim
  next A len cap =>
  obtain ⟨⟨m, xs⟩, hx, H2⟩ := PV.out H
  obtain ⟨hle, H3⟩ := H2
  dsimp only at hle H3
  unfold elemT at he
  split at he
  case h_2 => cases he
  next el _ _ _ ht =>
  obtain ⟨hd, _⟩ := hT _ _ ht
  cases hte : T el with
  | none => rw [hte] at he; cases he
  | some te' =>
    rw [hte] at he
    simp only [Option.map_some, Option.some.injEq, Prod.mk.injEq] at he
    obtain ⟨rfl, rfl⟩ := he
    obtain ⟨_, i, z, hi, hs, hb, hz, hc, _⟩ := hT _ _ hte
    simp only [Builtin.copy_, List.getElem?_toArray, List.getElem?_cons_zero, List.getElem?_cons_succ, hwp_bind', hwp_underlying hd, hwp_sizeOf hi, hs, hwp_pure]
    refine hwp_lenOf hx ?_
    have hm : Nat.min m len = m := Nat.min_eq_left hle
    simp only [hwp_bind', hm]
    refine hwp_firstCells hx ?_
    cases A with
    | none => exact H3
    | some a =>
      obtain ⟨h', e', k⟩ := PV.out H3
      simp only [hwp_bind']
      exact hwp_storeCells _ _ _ _ e' k

theorem hwp_callFunc {f : FuncId} (en : entersB P f) {args : Array Value} {Q : Next → Heap → Prop} (q : Q (.enter f args) h) : hwp P (callFunc f args) Q E h := by
  obtain ⟨fn, h1, h2, h3⟩ := en
  simp only [callFunc, hwp_bind', hwp_program, h1]
  rw [if_neg (by rw [h2]; simp), if_neg (by rw [h3]; simp)]
  exact q

end

theorem opF_sound {P : Program} {T : TT} (hT : TOK P T) {n : Nat} {Q : QT} {o : Oper} {tm : Tm} {K : KT} {h : Heap} (H : opF P T n Q o tm K h) : opG P n o tm K Q h := by
  have val : ∀ (s : Sem Value) (v : Value), (∀ (R : Value → Heap → Prop), R v h → hwp P s R (fun v h => Q (.panic [{ v, recovered := false }]) tm h) h) → K (put n tm o.dst v) h →
      hwp P (do pure (Next.value (← s))) (onNext P n o.dst tm K Q) (fun v h => Q (.panic [{ v, recovered := false }]) tm h) h :=
    fun s v hs k => (hwp_bind' _ _ _).2 (hs _ k)
  unfold opF at H
  unfold opG
  split at H
  · next hp =>
    rw [PVm_eq] at H
    obtain ⟨v, e, k⟩ := PV.out H
    obtain ⟨dst, op, ty, pos, after, guard⟩ := o
    simp only at e k hp val ⊢
    cases op <;> simp only [isPure] at hp <;> first | (cases hp; done) | skip
    case move x => cases e; exact k
    case assign x => cases e; exact k
    case pick c a b => exact hwp_pick e k
    case load t a =>
      refine val _ v (fun R r => ?_) k
      simp only [pureV] at e
      have e' := e
      unfold ldV at e'
      split at e'
      · next ti ad ht hx =>
        rw [hx] at e
        simp only [hx, Instr.loadAt, Instr.sureAddr, hwp_bind', hwp_pure]
        exact hwp_loadVar hT ht e r
      · cases e'
    case nilCheck x =>
      simp only [pureV] at e
      unfold nilV at e
      split at e
      · next hx => cases e; simp only [execOp, hx]; exact k
      · next hx => cases e; simp only [execOp, hx]; exact k
      · cases e
    case fieldAddr s x f => exact val _ v (fun R r => hwp_fieldAt hT e r) k
    case indexAddr t x i => exact val _ v (fun R r => hwp_indexAt hT e r) k
    case binOp op t x y _ => exact val _ v (fun R r => hwp_binOp hT e r) k
    case unOp op t x => exact val _ v (fun R r => hwp_unary e r) k
    case convert s d x => exact val _ v (fun R r => hwp_convert hT e r) k
    case makeInterface t x => exact val _ v (fun R r => hwp_makeInterface hT e r) k
    case makeFunc fn a b => cases e; exact val _ _ (fun R r => r) k
    case field t x f => exact val _ v (fun R r => hwp_field hT e r) k
    case index t x i => exact val _ v (fun R r => hwp_index hT e r) k
    case extract x i => exact val _ v (fun R r => hwp_extract e r) k
    case build t ps => exact val _ v (fun R r => hwp_build hT e r) k
    case slice t x lo hi mx => exact val _ v (fun R r => hwp_slice hT e r) k
    case call c =>
      simp only [pureV] at e
      unfold isPureC at hp
      split at hp
      · next x t =>
        simp only [execOp, resolve, hwp_bind', hwp_pure, invoke, builtin, List.map_toArray, List.map_cons, List.map_nil]
        exact hwp_len hT e k
      · next x y ts =>
        simp only [execOp, resolve, hwp_bind', hwp_pure, invoke, builtin, List.map_toArray, List.map_cons, List.map_nil]
        exact hwp_min e k
      · next x y ts =>
        simp only [execOp, resolve, hwp_bind', hwp_pure, invoke, builtin, List.map_toArray, List.map_cons, List.map_nil]
        exact hwp_max e k
      · cases hp
  · next hp =>
    obtain ⟨dst, op, ty, pos, after, guard⟩ := o
    simp only at H hp val ⊢
    clear hp
    split at H
    · obtain ⟨⟨vf, cs, et⟩, he, k⟩ := PV.out H
      next hal =>
      cases op <;> simp only [isAl] at hal <;> first | (cases hal; done) | skip
      case alloc t =>
        simp only [alV] at he
        cases ht : T t with
        | none => rw [ht] at he; cases he
        | some ti =>
          rw [ht] at he
          cases he
          obtain ⟨_, i, z, hi, hs, _, hz, hc, _⟩ := hT _ _ ht
          simp only [execOp, Instr.alloc, hwp_bind', hwp_zeroValue hi hz, hwp_pure, newVar, hc]
          exact hwp_newRow fun r hr => k r hr
      case box t x =>
        cases he
        simp only [execOp, Instr.box, hwp_bind', hwp_pure, newVar]
        exact hwp_newRow fun r hr => k r hr
      case makeSlice t l c =>
        simp only [execOp, hwp_bind', hwp_pure]
        exact hwp_makeSlice hT he k
      case buildSlice t len ps =>
        simp only [alV, bsV] at he
        cases hb : bslV T t len (Array.map (fun (x : Nat × Operand) => (x.1, ev tm x.2)) ps) with
        | none => rw [hb] at he; cases he
        | some x =>
          obtain ⟨e, cs'⟩ := x
          rw [hb] at he
          cases he
          simp only [execOp, hwp_bind', hwp_pure]
          exact hwp_buildSlice hT hb k
    next hal =>
    clear hal
    unfold effF at H
    split at H
    · next t a x =>
      obtain ⟨h', e, k⟩ := PV.out H
      have e' := e
      unfold stV at e'
      split at e'
      · next ti ad ht hx =>
        rw [hx] at e
        simp only [execOp, hx, Instr.storeAt, Instr.sureAddr, hwp_bind', hwp_pure]
        exact hwp_storeVar hT ht e k
      · cases e'
    · next s x t t' =>
      obtain ⟨rfl, H⟩ := H
      simp only [execOp, resolve, hwp_bind', hwp_pure, invoke, builtin, List.map_toArray, List.map_cons, List.map_nil]
      exact hwp_append hT H
    · next s x t t' =>
      simp only [execOp, resolve, hwp_bind', hwp_pure, invoke, builtin, List.map_toArray, List.map_cons, List.map_nil]
      exact hwp_copy hT H
    · next f args ts =>
      unfold CL at H
      split at H
      case h_2 => exact H.elim
      next g first captured hf =>
      obtain ⟨en, H⟩ := H
      simp only [execOp, resolve, hwp_bind', hwp_pure, hf, Deferred.ofValue, invoke]
      exact hwp_callFunc en (H.mono fun e h' R => by cases e <;> exact R)
    · next r name args ts =>
      unfold INV at H
      split at H
      case h_2 => exact H.elim
      next t v hx =>
      obtain ⟨f, rc, hm, en, H⟩ := H
      simp only [execOp, resolve, hwp_bind', hwp_pure, invoke]
      generalize args.map (ev tm) = as at H ⊢
      have e0 : (#[ev tm r] ++ as)[0]? = some (ev tm r) := by simp [Array.getElem?_append]
      have e1 : (#[ev tm r] ++ as).extract 1 (#[ev tm r] ++ as).size = as := by
        apply Array.toList_inj.1
        simp [Array.toList_extract, List.extract]
      rw [e0]
      simp only
      rw [e1]
      simp only [callMethod, hx, hwp_bind', hwp_program]
      refine hm _ _ _ (hwp_callFunc en (H.mono fun e h' R => ?_))
      cases e <;> exact R
    · next x =>
      split at H
      · next t v hx =>
        simp only [execOp, hwp_bind', Instr.panic, hx, goPanic]
        exact H
      · exact H.elim
    · exact H.elim

theorem effF_mono {P : Program} {T : TT} {n : Nat} {Q Q' : QT} {o : Oper} {tm : Tm} {k k' : Value → Heap → Prop} {h : Heap} {op : Op} (hk : ∀ v h, k v h → k' v h)
    (hQ : ∀ ch h, Q (.panic ch) tm h → Q' (.panic ch) tm h) (H : effF P T n Q o tm k h op) : effF P T n Q' o tm k' h op := by
  unfold effF at H ⊢
  split at H
  · exact H.mono fun _ x => hk _ _ x
  · obtain ⟨ht, H⟩ := H
    refine ⟨ht, H.mono fun z x => ?_⟩
    obtain ⟨e, te⟩ := z
    dsimp only at x ⊢
    split at x
    case h_2 => exact x.elim
    refine PV.mono x fun z x => ?_
    obtain ⟨m, xs⟩ := z
    obtain ⟨h0, h1, h2, h3, h4⟩ := x
    refine ⟨h0, h1, h2, fun hle => ?_, fun hlt => ?_⟩
    · have := h3 hle
      split at this
      · exact PV.mono this fun _ x => hk _ _ x
      · exact hk _ _ this
    · exact PV.mono (h4 hlt) fun _ x r c hr hc => hk _ _ (x r c hr hc)
  · refine PV.mono H fun z x => ?_
    obtain ⟨e, te⟩ := z
    dsimp only at x ⊢
    split at x
    case h_2 => exact x.elim
    refine PV.mono x fun z x => ?_
    obtain ⟨m, xs⟩ := z
    obtain ⟨h0, h1⟩ := x
    refine ⟨h0, ?_⟩
    split at h1
    · exact PV.mono h1 fun _ x => hk _ _ x
    · exact hk _ _ h1
  · unfold CL at H ⊢
    split at H
    case h_2 => exact H.elim
    refine ⟨H.1, H.2.mono fun e h' R => ?_⟩
    cases e with
    | returned v => exact hk _ _ R
    | panicked ch => exact hQ _ _ R
    | outgrown => exact R
  · unfold INV at H ⊢
    split at H
    case h_2 => exact H.elim
    obtain ⟨f, rc, hm, en, H⟩ := H
    refine ⟨f, rc, hm, en, H.mono fun e h' R => ?_⟩
    cases e with
    | returned v => exact hk _ _ R
    | panicked ch => exact hQ _ _ R
    | outgrown => exact R
  · split at H
    · exact hQ _ _ H
    · exact H.elim
  · exact H

theorem opF_FM (P : Program) (T : TT) (n : Nat) : FM n (opF P T n) := by
  intro Q Q' o tm K K' h hK hQ H
  unfold opF at H ⊢
  split at H
  · next hp => rw [if_pos hp]; rw [PVm_eq] at H ⊢; exact H.mono fun v k => hK v h k
  · next hp =>
    rw [if_neg hp]
    split at H
    · next hal => rw [if_pos hal]; exact H.mono fun _ k r hr => hK _ _ (k r hr)
    next hal =>
    rw [if_neg hal]
    exact effF_mono (fun v h k => hK _ _ k) hQ H

end Go.HW
