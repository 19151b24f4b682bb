/- Slices that grow by append, over partial heaps. -/
import Derived.Test.YthchjolcjicpgaaPred
namespace Go.HW

/-- The blocks of 'P' that were known are as they were. -/
def Keep (P : Nat → Prop) (h h' : Heap) : Prop := ∀ b, P b → ¬ h.fresh b → (∀ i, h'.cell b i = h.cell b i) ∧ h'.info b = h.info b

theorem Keep.refl (P : Nat → Prop) (h : Heap) : Keep P h h := fun _ _ _ => ⟨fun _ => rfl, rfl⟩
theorem Keep.of {P : Nat → Prop} {h h' : Heap} (k : Keep P h h') {b : Nat} {x : TypeId × Nat} (hP : P b) (hi : h.info b = some x) : (∀ i, h'.cell b i = h.cell b i) ∧ h'.info b = h.info b :=
  k b hP fun f => by rw [f.1] at hi; cases hi
theorem Keep.known {P : Nat → Prop} {h h' : Heap} (k : Keep P h h') {b : Nat} (hP : P b) (hn : ¬ h.fresh b) : ¬ h'.fresh b := fun f => hn ⟨by rw [← (k b hP hn).2]; exact f.1, fun i => by rw [← (k b hP hn).1]; exact f.2 i⟩
theorem Keep.trans {P : Nat → Prop} {h h' h2 : Heap} (k : Keep P h h') (k' : Keep P h' h2) : Keep P h h2 := fun b hP hn =>
  have a := k b hP hn
  have a' := k' b hP (k.known hP hn)
  ⟨fun i => (a'.1 i).trans (a.1 i), a'.2.trans a.2⟩
theorem Keep.sub {P Q : Nat → Prop} {h h' : Heap} (k : Keep P h h') (hs : ∀ b, Q b → P b) : Keep Q h h' := fun b hP hn => k b (hs b hP) hn
theorem GA.keep {α : Type} {mk : α → Value} {t : TypeId} {h h' : Heap} {b n : Nat} {f : Nat → α} {P : Nat → Prop} (g : GA mk t h b n f) (k : Keep P h h') (hP : P b) : GA mk t h' b n f :=
  have a := k.of hP g.info
  ⟨fun i hi => by rw [a.1]; exact g.cell i hi, by rw [a.2]; exact g.info⟩
theorem Keep.new {P : Nat → Prop} {h0 h : Heap} (k : Keep P h0 h) {r : Nat} (f : h.fresh r) (c : Array Value) (t : TypeId) : Keep P h0 (h.new r c t) := k.trans fun b _ hn => by
  have : b ≠ r := by rintro rfl; exact hn f
  simp [this]
theorem Keep.set {P : Nat → Prop} {h0 h : Heap} (k : Keep P h0 h) {b : Nat} (hb : ¬ P b) (i : Nat) (v : Value) : Keep P h0 (h.set b i v) := k.trans fun b' hP _ => by
  have : b' ≠ b := by rintro rfl; exact hb hP
  simp [this]

/-- A slice that grows: of block 'bk', new since 'S'; 'q': what lies behind its end is not known. -/
def GL (e : TypeId) (S h : Heap) (q : Prop) (x : Value) (l : List Nat) (bk : Option Nat) : Prop :=
  match bk with
  | none => l = [] ∧ x = .slice none 0 0
  | some b => S.fresh b ∧ ∃ c, x = .slice (some ⟨b, 0, none⟩) l.length c ∧ l.length ≤ c ∧ h.info b = some (e, c) ∧ (∀ (j i : Nat), l[j]? = some i → h.cell b j = some (.int .i64 i)) ∧ (q → ∀ j, l.length ≤ j → h.cell b j = none)

theorem GL.nil (e : TypeId) (S h : Heap) (q : Prop) : GL e S h q (.slice none 0 0) [] none := ⟨rfl, rfl⟩

theorem GL.shape {e : TypeId} {S h : Heap} {q : Prop} {x : Value} {l : List Nat} {bk : Option Nat} (g : GL e S h q x l bk) : ∃ A c, x = .slice A l.length c ∧ l.length ≤ c := by
  cases bk with
  | none => obtain ⟨rfl, rfl⟩ := g; exact ⟨none, 0, rfl, Nat.le_refl _⟩
  | some b => obtain ⟨_, c, rfl, hc, _⟩ := g; exact ⟨_, c, rfl, hc⟩
theorem GL.il {e : TypeId} {S h : Heap} {q : Prop} {x : Value} {l : List Nat} {bk : Option Nat} (g : GL e S h q x l bk) : IL h x l := by
  cases bk with
  | none => obtain ⟨rfl, rfl⟩ := g; exact ⟨none, 0, rfl, fun j i h => by simp at h⟩
  | some b =>
    obtain ⟨_, c, rfl, hc, _, h1, _⟩ := g
    exact ⟨_, c, rfl, fun j i hj => ⟨b, 0, rfl, by rw [Nat.zero_add]; exact h1 j i hj⟩⟩

theorem GL.keep {e : TypeId} {S h h' : Heap} {q : Prop} {x : Value} {l : List Nat} {bk : Option Nat} {P : Nat → Prop} (g : GL e S h q x l bk) (k : Keep P h h') (hP : ∀ b, bk = some b → P b) : GL e S h' q x l bk := by
  cases bk with
  | none => exact g
  | some b =>
    obtain ⟨f, c, rfl, hc, hi, h1, h2⟩ := g
    have a := k.of (hP b rfl) hi
    exact ⟨f, c, rfl, hc, by rw [a.2]; exact hi, fun j i hj => by rw [a.1]; exact h1 j i hj, fun hq j hj => by rw [a.1]; exact h2 hq j hj⟩
theorem GL.known {e : TypeId} {S h : Heap} {q : Prop} {x : Value} {l : List Nat} {b : Nat} (g : GL e S h q x l (some b)) : ∃ c, h.info b = some (e, c) := by
  obtain ⟨f, c, rfl, hc, hi, h1, h2⟩ := g
  exact ⟨c, hi⟩
theorem GL.weak {e : TypeId} {S h : Heap} {q : Prop} {x : Value} {l : List Nat} {bk : Option Nat} (g : GL e S h q x l bk) : GL e S h False x l bk := by
  cases bk with
  | none => exact g
  | some b => obtain ⟨f, c, rfl, hc, hi, h1, h2⟩ := g; exact ⟨f, c, rfl, hc, hi, h1, fun h => h.elim⟩

/-- The cells that are known, said as a list. -/
theorem cellsL_known {h : Heap} {b : Nat} (l : List Nat) : ∀ (o k : Nat), (∀ (j i : Nat), l[j]? = some i → h.cell b (o + (k + j)) = some (.int .i64 i)) → cellsL h ⟨b, o, none⟩ k l.length = some (l.map fun (i : Nat) => Value.int .i64 i) := by
  induction l with
  | nil => intro o k _; rfl
  | cons x l ih =>
    intro o k hk
    rw [List.length_cons, cellsL_succ]
    rw [show h.cell b (o + k) = some (.int .i64 x) from by simpa using hk 0 x rfl]
    rw [ih o (k + 1) (fun j i hj => by have := hk (j + 1) i (by simpa using hj); rw [show k + 1 + j = k + (j + 1) by omega]; exact this)]
    rfl

theorem AP_push {T : TT} {t e : TypeId} {S h : Heap} {q : Prop} {x : Value} {l : List Nat} {bk : Option Nat} {i r c : Nat} {K : Value → Heap → Prop} (hT : elemT T t = some (e, ⟨.int .i64, 1, 8, #[.int .i64 0]⟩))
    (g : GL e S h q x l bk) (ls : Le S h) (hl : l.length < 1000000000) (hr : h.cell r 0 = some (.int .i64 i))
    (hK : ∀ x' h' bk', GL e S h' q x' (l ++ [i]) bk' → Le S h' → (q → Le h h') → (bk' = bk ∨ ∃ r, bk' = some r ∧ h.fresh r) → Keep (fun b => bk' ≠ some b) h h' → K x' h') :
    AP T t x (.slice (some ⟨r, 0, none⟩) 1 c) K h := by
  obtain ⟨A, cx, hx, hlc⟩ := g.shape
  simp only [AP, hT, PV_some, hx]
  have e1 : srcV h 1 (.slice (some ⟨r, 0, none⟩) 1 c) = some (1, [.int .i64 i]) := by simp [srcV, hr]
  rw [e1, PV_some]
  refine ⟨rfl, by omega, fun h => by have := nextcap_le h; omega, fun hle => ?_, fun hgt => ?_⟩
  · cases bk with
    | none =>
      obtain ⟨rfl, rfl⟩ := g
      cases hx
      simp at hle
    | some b =>
      obtain ⟨f, c', rfl, hc, hi, h1, h2⟩ := g
      cases hx
      simp only [add_plain, Nat.mul_one, Nat.zero_add, setL_int]
      rw [can_info hi, decide_eq_true (by omega), if_pos rfl, PV_some]
      refine hK _ _ (some b) ⟨f, cx, by simp, by simp; omega, by simpa using hi, fun j i' hj => ?_, fun hq j hj => ?_⟩ (ls.set_fresh f _ _) (fun hq => ⟨fun b' i' v' hv => ?_, fun _ _ h => h⟩) (.inl rfl) ?_
      · simp only [set_cell_here]
        rcases Nat.lt_or_ge j l.length with hlt | hge
        · rw [if_neg (by omega)]
          exact h1 j i' (by rw [List.getElem?_append_left hlt] at hj; exact hj)
        · rw [List.getElem?_append_right hge] at hj
          have : j - l.length = 0 := by
            rcases Nat.eq_zero_or_pos (j - l.length) with h | h
            · exact h
            · rw [List.getElem?_eq_none (by simp; omega)] at hj; cases hj
          rw [this] at hj
          simp at hj
          subst hj
          rw [if_pos (by omega)]
      · simp only [set_cell_here]
        simp at hj
        rw [if_neg (by omega)]
        exact h2 hq j (by omega)
      · by_cases hb : b' = b
        · subst hb
          rw [set_cell_here]
          by_cases hj : i' = l.length
          · rw [hj, h2 hq _ (Nat.le_refl _)] at hv; cases hv
          · rw [if_neg hj]; exact hv
        · rw [set_cell_nb _ _ _ _ hb]; exact hv
      · intro b' hb _
        have : b' ≠ b := fun e => hb (by rw [e])
        simp [this]
  · have e2 : srcV h 1 (.slice A l.length cx) = some (l.length, l.map fun (i : Nat) => Value.int .i64 i) := by
      cases bk with
      | none => obtain ⟨rfl, rfl⟩ := g; cases hx; rfl
      | some b =>
        obtain ⟨f, c', rfl, hc, hi, h1, h2⟩ := g
        cases hx
        simp only [srcV, Nat.mul_one]
        rw [cellsL_known l 0 0 (fun j i hj => by simpa using h1 j i hj)]
        rfl
    rw [e2, PV_some]
    intro r' c' hf hc'
    have c1 : ∀ j, (h.newP r' (l.map (fun (i : Nat) => Value.int .i64 i) ++ [.int .i64 i]) e (c' * 1)).cell r' j = (l.map (fun (i : Nat) => Value.int .i64 i) ++ [.int .i64 i])[j]? := fun j => by simp [Heap.newP]
    have L : Le h (h.newP r' (l.map (fun (i : Nat) => Value.int .i64 i) ++ [.int .i64 i]) e (c' * 1)) := by
      refine ⟨fun b i v hv => ?_, fun b v hv => ?_⟩
      · have : b ≠ r' := hf.ne hv
        simp [Heap.newP, this, hv]
      · have : b ≠ r' := hf.nei hv
        simp [Heap.newP, this, hv]
    refine hK _ _ (some r') ⟨hf.le ls, c', by simp, by simpa using hc', by simp [Heap.newP], fun j i' hj => ?_, fun hq j hj => ?_⟩ (ls.trans L) (fun _ => L) (.inr ⟨r', rfl, hf⟩) ?_
    · refine (c1 j).trans ?_
      have : (l ++ [i])[j]? = some i' := hj
      rw [show (l.map (fun (i : Nat) => Value.int .i64 (i : Int)) ++ [.int .i64 (i : Int)]) = (l ++ [i]).map (fun (i : Nat) => Value.int .i64 (i : Int)) by simp, List.getElem?_map, this]
      rfl
    · refine (c1 j).trans ?_
      exact List.getElem?_eq_none (by simpa using hj)
    · intro b' hb _
      have : b' ≠ r' := fun e => hb (by rw [e])
      simp [Heap.newP, this]

@[simp] theorem alF_some (x : AlT) (h : Heap) (K : Value → Heap → Prop) : alF (some x) h K ↔ ∀ r, h.fresh r → K (x.1 r) (h.new r x.2.1 x.2.2) := Iff.rfl

theorem ms_word {T : TT} {t e : TypeId} {d : TypeDesc} {z : Value} {sz by_ : Nat} {w1 w2 : Nat} {zz : Array Value} (h1 : T t = some ⟨.slice e, w1, w2, zz⟩) (h2 : T e = some ⟨d, sz, by_, #[z]⟩) (n : Nat) (hn : by_ * n ≤ 281474976710656) (hn' : n ≤ 9223372036854775807) :
    msV T t (.int .i64 n) (.int .i64 n) = some (fun r => .slice (some ⟨r, 0, none⟩) n n, zrow #[z] (n * sz), e) := by
  simp only [msV, h1, asN]
  rw [if_pos (by omega)]
  simp only [h2, Int.toNat_natCast]
  rw [if_pos ⟨Nat.le_refl _, hn⟩]

theorem Le.sets {S h : Heap} (l : Le S h) (b i : Nat) (v : Value) : Le (S.set b i v) (h.set b i v) := ⟨fun b' i' x hx => by
  by_cases e : b' = b ∧ i' = i
  · obtain ⟨rfl, rfl⟩ := e
    rw [set_cell_same] at hx ⊢
    exact hx
  · rw [set_cell_other _ _ e] at hx ⊢
    exact l.cell _ _ _ hx, l.info⟩
theorem Le.set_none {S : Heap} {b i : Nat} (hn : S.cell b i = none) (v : Value) : Le S (S.set b i v) := by
  refine ⟨fun b' i' x hx => ?_, fun _ _ h => h⟩
  rw [set_cell_other]
  · exact hx
  · rintro ⟨rfl, rfl⟩
    rw [hn] at hx
    cases hx
theorem fresh_set {S : Heap} {b b' i : Nat} {v : Value} (f : S.fresh b) (hne : b ≠ b') : (S.set b' i v).fresh b := ⟨f.1, fun i' => by rw [set_cell_nb _ _ _ _ hne]; exact f.2 i'⟩
@[simp] theorem upd_upd {α : Type} (f : Nat → α) (i : Nat) (x y : α) : upd (upd f i x) i y = upd f i y := by funext j; simp only [upd]; split <;> rfl

/-- The heap without what is known of one block. -/
def Heap.drop (h : Heap) (b : Nat) : Heap := ⟨fun b' i => if b' = b then none else h.cell b' i, fun b' => if b' = b then none else h.info b'⟩
theorem drop_fresh (h : Heap) (b : Nat) : (h.drop b).fresh b := ⟨by simp [Heap.drop], fun i => by simp [Heap.drop]⟩
theorem drop_le (h : Heap) (b : Nat) : Le (h.drop b) h := by
  refine ⟨fun b' i v e => ?_, fun b' x e => ?_⟩
  · simp only [Heap.drop] at e; split at e
    · cases e
    · exact e
  · simp only [Heap.drop] at e; split at e
    · cases e
    · exact e
theorem le_drop {S h : Heap} {b : Nat} (l : Le S h) (f : S.fresh b) : Le S (h.drop b) := by
  refine ⟨fun b' i v e => ?_, fun b' x e => ?_⟩
  · have := f.ne e
    simp only [Heap.drop]
    rw [if_neg this]
    exact l.cell _ _ _ e
  · have := f.nei e
    simp only [Heap.drop]
    rw [if_neg this]
    exact l.info _ _ e
theorem keep_drop (h : Heap) (b : Nat) : Keep (fun b' => b' ≠ b) h (h.drop b) := fun b' hne _ => by simp [Heap.drop, hne]
theorem GL.le {e : TypeId} {S h h' : Heap} {x : Value} {l : List Nat} {bk : Option Nat} (g : GL e S h False x l bk) (L : Le h h') : GL e S h' False x l bk := by
  cases bk with
  | none => exact g
  | some b =>
    obtain ⟨f, c, rfl, hc, hi, h1, h2⟩ := g
    exact ⟨f, c, rfl, hc, L.info _ _ hi, fun j i hj => L.cell _ _ _ (h1 j i hj), fun h => h.elim⟩
theorem GL.base {e : TypeId} {S S' h : Heap} {q : Prop} {x : Value} {l : List Nat} {bk : Option Nat} (g : GL e S h q x l bk) (L : Le S' S) : GL e S' h q x l bk := by
  cases bk with
  | none => exact g
  | some b =>
    obtain ⟨f, r⟩ := g
    exact ⟨f.le L, r⟩
theorem newP_le {S h : Heap} (l : Le S h) {r : Nat} (f : h.fresh r) (v : Value) (c : Array Value) (t : TypeId) (hv : c[0]? = some v) : Le (S.newP r [v] t c.size) (h.new r c t) := by
  refine ⟨fun b i x hx => ?_, fun b x hx => ?_⟩
  · simp only [Heap.newP, Heap.new] at hx ⊢
    split at hx
    · next e =>
      rw [if_pos e]
      cases i with
      | zero => simp at hx; rw [hv, hx]
      | succ i => simp at hx
    · next e => rw [if_neg e]; exact l.cell _ _ _ hx
  · simp only [Heap.newP, Heap.new] at hx ⊢
    split at hx
    · next e => rw [if_pos e]; exact hx
    · next e => rw [if_neg e]; exact l.info _ _ hx
theorem le_newP {S : Heap} {r : Nat} (f : S.fresh r) (v : List Value) (t : TypeId) (n : Nat) : Le S (S.newP r v t n) := by
  refine ⟨fun b i x hx => ?_, fun b x hx => ?_⟩
  · have := f.ne hx
    simp only [Heap.newP]
    rw [if_neg this]; exact hx
  · have := f.nei hx
    simp only [Heap.newP]
    rw [if_neg this]; exact hx

theorem sl_hi {T : TT} {t e : TypeId} {w1 w2 : Nat} {zz : Array Value} {te : TI} (h1 : T t = some ⟨.slice e, w1, w2, zz⟩) (h2 : T e = some te) (b o len cap : Nat) (k : IntKind) (m : Int) :
    slV T t (.slice (some ⟨b, o, none⟩) len cap) none (some (.int k m)) none = if 0 ≤ m ∧ m ≤ cap then some (.slice (some ⟨b, o, none⟩) m.toNat cap) else none := by
  simp only [slV, h1, h2, boundV]
  by_cases h : 0 ≤ m ∧ m ≤ cap
  · rw [if_pos h, if_pos h]
    simp only [Nat.zero_mul, Nat.sub_zero]
    split <;> simp
  · rw [if_neg h, if_neg h]

theorem GL.pop {e : TypeId} {S h : Heap} {x : Value} {l : List Nat} {v : Nat} {bk : Option Nat} (g : GL e S h False x (l ++ [v]) bk) :
    ∃ b c, bk = some b ∧ x = .slice (some ⟨b, 0, none⟩) (l.length + 1) c ∧ l.length + 1 ≤ c ∧ h.cell b l.length = some (.int .i64 v) ∧ GL e S h False (.slice (some ⟨b, 0, none⟩) l.length c) l bk := by
  cases bk with
  | none => obtain ⟨h, _⟩ := g; simp at h
  | some b =>
    obtain ⟨f, c, rfl, hc, hi, h1, h2⟩ := g
    simp at hc
    refine ⟨b, c, rfl, by simp, hc, h1 l.length v (by simp), f, c, rfl, by omega, hi, fun j i hj => h1 j i ?_, fun h => h.elim⟩
    rw [List.getElem?_append_left (List.getElem?_eq_some_iff.1 hj).1]
    exact hj

end Go.HW
