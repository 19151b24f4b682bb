/- Words for memory over partial heaps: arrays, slices, edges. -/
import Derived.Test.YthchjolcjicpgaaFun
namespace Go.HW

@[simp] theorem nilV_ptr (a : Addr) : nilV (.pointer (some a)) = some (.pointer (some a)) := rfl
@[simp] theorem pick_tt (a b : Value) : pickV (.bool true) a b = some a := rfl
@[simp] theorem pick_ff (a b : Value) : pickV (.bool false) a b = some b := rfl
@[simp] theorem bin_lss (T : TT) (t : TypeId) (k : IntKind) (a b : Int) : binV T .lss t (.int k a) (.int k b) = some (.bool (decide (a < b))) := by simp [binV]
@[simp] theorem bin_leq (T : TT) (t : TypeId) (k : IntKind) (a b : Int) : binV T .leq t (.int k a) (.int k b) = some (.bool (decide (a ≤ b))) := by simp [binV]
@[simp] theorem bin_gtr (T : TT) (t : TypeId) (k : IntKind) (a b : Int) : binV T .gtr t (.int k a) (.int k b) = some (.bool (decide (b < a))) := by simp [binV]
@[simp] theorem bin_geq (T : TT) (t : TypeId) (k : IntKind) (a b : Int) : binV T .geq t (.int k a) (.int k b) = some (.bool (decide (b ≤ a))) := by simp [binV]
@[simp] theorem bin_eql (T : TT) (t : TypeId) (k : IntKind) (a b : Int) : binV T .eql t (.int k a) (.int k b) = some (.bool (decide (a = b))) := by simp [binV]; rfl
@[simp] theorem bin_neq (T : TT) (t : TypeId) (k : IntKind) (a b : Int) : binV T .neq t (.int k a) (.int k b) = some (.bool (decide (a ≠ b))) := by
  simp only [binV, if_true]
  congr 2
  by_cases h : a = b <;> simp [h]
@[simp] theorem bin_add (T : TT) (t : TypeId) (k : IntKind) (a b : Int) : binV T .add t (.int k a) (.int k b) = some (.int k (k.wrap (a + b))) := by simp [binV]
@[simp] theorem bin_sub (T : TT) (t : TypeId) (k : IntKind) (a b : Int) : binV T .sub t (.int k a) (.int k b) = some (.int k (k.wrap (a - b))) := by simp [binV]
@[simp] theorem bin_mul (T : TT) (t : TypeId) (k : IntKind) (a b : Int) : binV T .mul t (.int k a) (.int k b) = some (.int k (k.wrap (a * b))) := by simp [binV]
@[simp] theorem un_not (b : Bool) : unV .not (.bool b) = some (.bool !b) := rfl
@[simp] theorem min2_int (k k' : IntKind) (x y : Int) : min2V (.int k x) (.int k' y) = some (.int k (if y < x then y else x)) := rfl
@[simp] theorem max2_int (k k' : IntKind) (x y : Int) : max2V (.int k x) (.int k' y) = some (.int k (if y > x then y else x)) := rfl
@[simp] theorem ext_0 (a : Value) (l : List Value) : extV (.tuple (a :: l).toArray) 0 = some a := by simp [extV]
@[simp] theorem ext_1 (a b : Value) (l : List Value) : extV (.tuple (a :: b :: l).toArray) 1 = some b := by simp [extV]
@[simp] theorem ext_2 (a b c : Value) (l : List Value) : extV (.tuple (a :: b :: c :: l).toArray) 2 = some c := by simp [extV]
theorem ifV_bool (t : Bool) (A B : Prop) : ifV (.bool t) A B ↔ (t = true → A) ∧ (t = false → B) := by cases t <;> simp [ifV]
@[simp] theorem ifV_dec (p : Prop) [Decidable p] (A B : Prop) : ifV (.bool (decide p)) A B ↔ (p → A) ∧ (¬ p → B) := by rw [ifV_bool]; simp
@[simp] theorem ifV_not (p : Prop) [Decidable p] (A B : Prop) : ifV (.bool (!decide p)) A B ↔ (¬ p → A) ∧ (p → B) := by rw [ifV_bool]; simp
@[simp] theorem ifV_beq (a b : Bool) (A B : Prop) : ifV (.bool (a == b)) A B ↔ (a = b → A) ∧ (a ≠ b → B) := by rw [ifV_bool]; simp
@[simp] theorem ifV_bne (a b : Bool) (A B : Prop) : ifV (.bool (a != b)) A B ↔ (a ≠ b → A) ∧ (a = b → B) := by rw [ifV_bool]; simp
@[simp] theorem ifV_true (A B : Prop) : ifV (.bool true) A B ↔ A := Iff.rfl
@[simp] theorem ifV_false (A B : Prop) : ifV (.bool false) A B ↔ B := Iff.rfl
theorem wrap_in {a : Int} (h : -9223372036854775808 ≤ a) (h' : a ≤ 9223372036854775807) : IntKind.i64.wrap a = a := by
  unfold IntKind.wrap
  simp [IntKind.bits, IntKind.signed]
  omega

@[simp] theorem add_plain (b o n : Nat) : (⟨b, o, none⟩ : Addr).add n = ⟨b, o + n, none⟩ := by
  unfold Addr.add
  split
  · next h => simp [h]
  · rfl

theorem setL1 (h : Heap) (b o : Nat) (v : Value) (hv : oneVal v = true) : setL h ⟨b, o, none⟩ 0 [v] = if h.canB b o = true then some (h.set b o v) else none := by
  simp only [setL, add_plain, Nat.add_zero, hv, true_and]

/-- What a write of one cell comes to. -/
theorem st_one {h : Heap} {b o : Nat} {v : Value} (hv : oneVal v = true) (hc : h.canB b o = true) :
    (if v.cells.size = 1 then setL h ⟨b, o, none⟩ 0 v.cells.toList else none) = some (h.set b o v) := by
  have e : v.cells = #[v] := by cases v <;> first | rfl | (simp [oneVal] at hv)
  rw [e]
  simp [setL1 _ _ _ _ hv, hc]

theorem set_cell_other (h : Heap) {b i b' i' : Nat} (v : Value) (hne : ¬ (b' = b ∧ i' = i)) : (h.set b i v).cell b' i' = h.cell b' i' := by simp only [Heap.set]; rw [if_neg hne]
theorem set_cell_same (h : Heap) (b i : Nat) (v : Value) : (h.set b i v).cell b i = some v := by simp [Heap.set]
@[simp] theorem set_info (h : Heap) (b i b' : Nat) (v : Value) : (h.set b i v).info b' = h.info b' := rfl
@[simp] theorem set_can (h : Heap) (b i b' i' : Nat) (v : Value) : (h.set b i v).canB b' i' = h.canB b' i' := rfl

@[simp] theorem cells_int (k : IntKind) (n : Int) : Value.cells (.int k n) = #[.int k n] := rfl
@[simp] theorem cells_bool (b : Bool) : Value.cells (.bool b) = #[.bool b] := rfl
@[simp] theorem cells_ptr (a : Option Addr) : Value.cells (.pointer a) = #[.pointer a] := rfl
@[simp] theorem cells_slice (a : Option Addr) (n c : Nat) : Value.cells (.slice a n c) = #[.slice a n c] := rfl
@[simp] theorem cells_agg (l : Array Value) : Value.cells (.agg l) = l := rfl
@[simp] theorem oneVal_int (k : IntKind) (n : Int) : oneVal (.int k n) = true := rfl
@[simp] theorem oneVal_bool (b : Bool) : oneVal (.bool b) = true := rfl
@[simp] theorem oneVal_ptr (a : Option Addr) : oneVal (.pointer a) = true := rfl
@[simp] theorem oneVal_slice (a : Option Addr) (n c : Nat) : oneVal (.slice a n c) = true := rfl
attribute [simp] set_cell_same
@[simp] theorem setL_int (h : Heap) (b o : Nat) (k : IntKind) (n : Int) : setL h ⟨b, o, none⟩ 0 [.int k n] = if h.canB b o = true then some (h.set b o (.int k n)) else none := setL1 _ _ _ _ rfl
@[simp] theorem setL_bool (h : Heap) (b o : Nat) (v : Bool) : setL h ⟨b, o, none⟩ 0 [.bool v] = if h.canB b o = true then some (h.set b o (.bool v)) else none := setL1 _ _ _ _ rfl
@[simp] theorem setL_ptr (h : Heap) (b o : Nat) (a : Option Addr) : setL h ⟨b, o, none⟩ 0 [.pointer a] = if h.canB b o = true then some (h.set b o (.pointer a)) else none := setL1 _ _ _ _ rfl
@[simp] theorem setL_slice (h : Heap) (b o : Nat) (a : Option Addr) (n c : Nat) : setL h ⟨b, o, none⟩ 0 [.slice a n c] = if h.canB b o = true then some (h.set b o (.slice a n c)) else none := setL1 _ _ _ _ rfl
def upd {α : Type} (f : Nat → α) (i : Nat) (x : α) : Nat → α := fun j => if j = i then x else f j
@[simp] theorem upd_same {α : Type} (f : Nat → α) (i : Nat) (x : α) : upd f i x i = x := by simp [upd]
theorem upd_ne {α : Type} (f : Nat → α) {i j : Nat} (x : α) (h : j ≠ i) : upd f i x j = f j := by simp [upd, h]

/-- Block 'b' is an array of 'n' elements of one cell. -/
structure GA {α : Type} (mk : α → Value) (t : TypeId) (h : Heap) (b n : Nat) (f : Nat → α) : Prop where
  cell : ∀ i, i < n → h.cell b i = some (mk (f i))
  info : h.info b = some (t, n)

section
variable {α : Type} {mk : α → Value} {t : TypeId} {h h' : Heap} {b n : Nat} {f : Nat → α}
theorem GA.can (g : GA mk t h b n f) {i : Nat} (hi : i < n) : h.canB b i = true := by simp [Heap.canB, g.info, hi]
theorem GA.le (g : GA mk t h b n f) (l : Le h h') : GA mk t h' b n f := ⟨fun i hi => l.cell _ _ _ (g.cell i hi), l.info _ _ g.info⟩
theorem GA.set (g : GA mk t h b n f) {i : Nat} (x : α) : GA mk t (h.set b i (mk x)) b n (upd f i x) := by
  refine ⟨fun j hj => ?_, g.info⟩
  simp only [Heap.set, upd]
  by_cases e : j = i
  · simp [e]
  · simp [e, g.cell j hj]
theorem GA.other (g : GA mk t h b n f) {b' i : Nat} (hne : b ≠ b') (v : Value) : GA mk t (h.set b' i v) b n f := by
  refine ⟨fun j hj => ?_, g.info⟩
  simp only [Heap.set]
  rw [if_neg (fun e => hne e.1)]
  exact g.cell j hj
theorem GA.ext {g : Nat → α} (a : GA mk t h b n f) (e : ∀ i, i < n → f i = g i) : GA mk t h b n g := ⟨fun i hi => by rw [← e i hi]; exact a.cell i hi, a.info⟩
end

abbrev IA := @GA Int (Value.int .i64) 3
abbrev BA := @GA Bool Value.bool 4

/-- An edge as Go has it. -/
structure RE where
  u : Int
  v : Int
  cap : Int
  cost : Int

/-- An edge's labels are within their bounds. -/
def RE.lab (e : RE) : Prop := 0 ≤ e.cap ∧ e.cap ≤ 1048576 ∧ -1048576 ≤ e.cost ∧ e.cost ≤ 1048576
def RE.inn (n : Int) (e : RE) : Prop := 0 ≤ e.u ∧ e.u < n ∧ 0 ≤ e.v ∧ e.v < n
/-- A graph that the program takes. -/
structure Fine (n : Int) (es : List RE) : Prop where
  n0 : 0 ≤ n
  n1 : n ≤ 1024
  m : es.length ≤ 4096
  ok : ∀ (i : Nat) (e : RE), es[i]? = some e → e.inn n ∧ e.lab

/-- A slice's value reads as these edges. -/
structure ES (h : Heap) (x : Value) (es : List RE) : Prop where
  shape : ∃ A c, x = .slice A es.length c ∧ es.length ≤ c ∧ ∀ i e, es[i]? = some e → ∃ b o, A = some ⟨b, o, none⟩ ∧
    h.cell b (o + i * 4) = some (.int .i64 e.u) ∧ h.cell b (o + i * 4 + 1) = some (.int .i64 e.v) ∧ h.cell b (o + i * 4 + 2) = some (.int .i64 e.cap) ∧ h.cell b (o + i * 4 + 3) = some (.int .i64 e.cost)

theorem ES.le {h h' : Heap} {x : Value} {es : List RE} (g : ES h x es) (l : Le h h') : ES h' x es := by
  obtain ⟨A, c, hx, hc, hi⟩ := g.shape
  refine ⟨A, c, hx, hc, fun i e he => ?_⟩
  obtain ⟨b, o, hA, h1, h2, h3, h4⟩ := hi i e he
  exact ⟨b, o, hA, l.cell _ _ _ h1, l.cell _ _ _ h2, l.cell _ _ _ h3, l.cell _ _ _ h4⟩

/-- A slice's value reads as these numbers. -/
def IL (h : Heap) (x : Value) (l : List Nat) : Prop := ∃ A c, x = .slice A l.length c ∧ ∀ (j i : Nat), l[j]? = some i → ∃ b o, A = some ⟨b, o, none⟩ ∧ h.cell b (o + j) = some (.int .i64 i)
theorem IL.le {h h' : Heap} {x : Value} {l : List Nat} (g : IL h x l) (e : Le h h') : IL h' x l := by
  obtain ⟨A, c, hx, hi⟩ := g
  refine ⟨A, c, hx, fun j i hj => ?_⟩
  obtain ⟨b, o, hA, h1⟩ := hi j i hj
  exact ⟨b, o, hA, e.cell _ _ _ h1⟩

theorem Le.set_fresh {S h : Heap} (l : Le S h) {b : Nat} (hf : S.fresh b) (i : Nat) (v : Value) : Le S (h.set b i v) := by
  refine ⟨fun b' i' v' e => ?_, l.info⟩
  rw [set_cell_other]
  · exact l.cell _ _ _ e
  · rintro ⟨rfl, _⟩
    rw [hf.2 i'] at e
    cases e

theorem CALL_mk {P : Program} {f : FuncId} {args : Array Value} {h : Heap} {K : Value → Heap → Prop} {E : List PanicEntry → Heap → Prop} {R : Ending → Heap → Prop} (en : entersB P f) (c : HCalls P f args h R)
    (k : ∀ e h', R e h' → endR K E e h') : CALL P f args h K E := ⟨en, c.mono k⟩
@[simp] theorem endR_ret (K : Value → Heap → Prop) (E : List PanicEntry → Heap → Prop) (v : Value) (h : Heap) : endR K E (.returned v) h ↔ K v h := Iff.rfl
@[simp] theorem endR_pan (K : Value → Heap → Prop) (E : List PanicEntry → Heap → Prop) (c : List PanicEntry) (h : Heap) : endR K E (.panicked c) h ↔ E c h := Iff.rfl

@[simp] theorem cellsL_zero (h : Heap) (a : Addr) (i : Nat) : cellsL h a i 0 = some [] := rfl
theorem cellsL_succ (h : Heap) (b o i n : Nat) : cellsL h ⟨b, o, none⟩ i (n + 1) = (h.cell b (o + i)).bind fun v => (cellsL h ⟨b, o, none⟩ (i + 1) n).map (v :: ·) := by
  simp only [cellsL, add_plain, Heap.at]
  cases h.cell b (o + i) <;> simp <;> cases cellsL h ⟨b, o, none⟩ (i + 1) n <;> rfl
@[simp] theorem cellsL_1 (h : Heap) (b o i : Nat) : cellsL h ⟨b, o, none⟩ i 1 = (h.cell b (o + i)).map fun v => [v] := by
  rw [cellsL_succ]; cases h.cell b (o + i) <;> rfl
@[simp] theorem cellsL_2 (h : Heap) (b o : Nat) : cellsL h ⟨b, o, none⟩ 0 2 = (h.cell b o).bind fun v => (h.cell b (o + 1)).map fun v' => [v, v'] := by
  rw [cellsL_succ, cellsL_1]; cases h.cell b o <;> cases h.cell b (o + 1) <;> rfl
@[simp] theorem cellsL_4 (h : Heap) (b o : Nat) : cellsL h ⟨b, o, none⟩ 0 4 = (h.cell b o).bind fun v0 => (h.cell b (o + 1)).bind fun v1 => (h.cell b (o + 2)).bind fun v2 => (h.cell b (o + 3)).map fun v3 => [v0, v1, v2, v3] := by
  rw [cellsL_succ, cellsL_succ, cellsL_succ, cellsL_1]; cases h.cell b o <;> simp <;> cases h.cell b (o + 1) <;> simp <;> cases h.cell b (o + 2) <;> simp <;> cases h.cell b (o + 3) <;> simp
@[simp] theorem setL_nil (h : Heap) (a : Addr) (i : Nat) : setL h a i [] = some h := by cases i <;> rfl
theorem setL_cons (h : Heap) (b o i : Nat) (v : Value) (r : List Value) : setL h ⟨b, o, none⟩ i (v :: r) = if oneVal v = true ∧ h.canB b (o + i) = true then setL (h.set b (o + i) v) ⟨b, o, none⟩ (i + 1) r else none := by
  simp only [setL, add_plain, true_and]
@[simp] theorem new_cell (h : Heap) (r : Nat) (c : Array Value) (t : TypeId) (i : Nat) : (h.new r c t).cell r i = c[i]? := by simp [Heap.new]
@[simp] theorem new_info (h : Heap) (r : Nat) (c : Array Value) (t : TypeId) : (h.new r c t).info r = some (t, c.size) := by simp [Heap.new]
@[simp] theorem new_can (h : Heap) (r : Nat) (c : Array Value) (t : TypeId) (i : Nat) : (h.new r c t).canB r i = decide (i < c.size) := by simp [Heap.canB]
theorem new_cell_ne (h : Heap) {r b : Nat} (hne : b ≠ r) (c : Array Value) (t : TypeId) (i : Nat) : (h.new r c t).cell b i = h.cell b i := by simp [Heap.new, hne]
theorem new_info_ne (h : Heap) {r b : Nat} (hne : b ≠ r) (c : Array Value) (t : TypeId) : (h.new r c t).info b = h.info b := by simp [Heap.new, hne]
theorem new_can_ne (h : Heap) {r b : Nat} (hne : b ≠ r) (c : Array Value) (t : TypeId) (i : Nat) : (h.new r c t).canB b i = h.canB b i := by simp [Heap.canB, new_info_ne h hne]
attribute [simp] new_cell_ne new_info_ne new_can_ne
@[simp] theorem set_cell_here (h : Heap) (b i j : Nat) (v : Value) : (h.set b i v).cell b j = if j = i then some v else h.cell b j := by simp [Heap.set]
@[simp] theorem set_cell_nb (h : Heap) {b b' : Nat} (i j : Nat) (v : Value) (hne : b' ≠ b) : (h.set b i v).cell b' j = h.cell b' j := by simp [Heap.set, hne]
theorem can_info {h : Heap} {b n : Nat} {t : TypeId} (e : h.info b = some (t, n)) (i : Nat) : h.canB b i = decide (i < n) := by simp [Heap.canB, e]
theorem Heap.fresh.ne {h : Heap} {r b i : Nat} {v : Value} (f : h.fresh r) (c : h.cell b i = some v) : b ≠ r := by rintro rfl; rw [f.2 i] at c; cases c
theorem Heap.fresh.nei {h : Heap} {r b : Nat} {x : TypeId × Nat} (f : h.fresh r) (c : h.info b = some x) : b ≠ r := by rintro rfl; rw [f.1] at c; cases c
theorem Heap.fresh.le {h h' : Heap} {r : Nat} (f : h'.fresh r) (l : Le h h') : h.fresh r := by
  refine ⟨?_, fun i => ?_⟩
  · cases e : h.info r with
    | none => rfl
    | some x => have := l.info _ _ e; rw [f.1] at this; cases this
  · cases e : h.cell r i with
    | none => rfl
    | some x => have := l.cell _ _ _ e; rw [f.2 i] at this; cases this
theorem Le.new {S h : Heap} (l : Le S h) {r : Nat} (f : h.fresh r) (c : Array Value) (t : TypeId) : Le S (h.new r c t) := l.trans (Heap.le_new f c t)

theorem zrow1 (v : Value) (n : Nat) : zrow #[v] n = Array.replicate n v := by
  apply Array.ext
  · simp [zrow]
  · intro i h1 h2
    simp [zrow, Nat.mod_one]
/-- A new row. -/
theorem GA.fresh {α : Type} (mk : α → Value) (t : TypeId) (h : Heap) (r n : Nat) (d : α) : GA mk t (h.new r (zrow #[mk d] n) t) r n fun _ => d := by
  refine ⟨fun i hi => ?_, ?_⟩
  · simp [zrow1, hi]
  · simp [zrow1]
theorem GA.new {α : Type} {mk : α → Value} {t : TypeId} {h : Heap} {b n : Nat} {f : Nat → α} (g : GA mk t h b n f) {r : Nat} (fr : h.fresh r) (c : Array Value) (t' : TypeId) : GA mk t (h.new r c t') b n f := g.le (Heap.le_new fr c t')

end Go.HW
