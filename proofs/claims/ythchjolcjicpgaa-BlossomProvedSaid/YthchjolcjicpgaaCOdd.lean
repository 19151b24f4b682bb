/- vouch.odd: how many odd parts are left. -/
import Derived.Test.YthchjolcjicpgaaFLargest
import Derived.Test.YthchjolcjicpgaaCNew
import Derived.Test.YthchjolcjicpgaaMOdd
import Derived.Test.YthchjolcjicpgaaAppend
import Derived.Test.YthchjolcjicpgaaCProved
namespace Go.Proofs.Ythchjolcjicpgaa
open Go.HW Odd

/-- Nodes that an edge joins, and neither is left out. -/
def AdjW (es : List RE) (wo : Nat → Bool) (v w : Nat) : Prop := wo v = false ∧ wo w = false ∧ ∃ i, i < es.length ∧ ((atE uE es i = v ∧ atE vE es i = w) ∨ (atE vE es i = v ∧ atE uE es i = w))

theorem adjW {n : Nat} {es : List RE} (t : Fine n es) (wo : Nat → Bool) : Adj n wo (AdjW es wo) := by
  refine ⟨fun v w ⟨h1, h2, i, hi, h⟩ => ⟨?_, h1⟩, fun v w ⟨h1, h2, i, hi, h⟩ => ⟨h2, h1, i, hi, ?_⟩⟩
  · have he := List.getElem?_eq_getElem hi
    obtain ⟨q1, q2, _⟩ := t.lt he
    rw [atE_of he, atE_of he] at h
    omega
  · rcases h with ⟨h, h'⟩ | ⟨h, h'⟩
    · exact .inr ⟨h', h⟩
    · exact .inl ⟨h', h⟩

/-- The rows of neighbours, as they are built. -/
def nbA (es : List RE) (wo : Nat → Bool) : Nat → Nat → List Nat
  | 0 => fun _ => []
  | j + 1 => if wo (atE uE es j) = false ∧ wo (atE vE es j) = false then
      upd (upd (nbA es wo j) (atE uE es j) (nbA es wo j (atE uE es j) ++ [atE vE es j])) (atE vE es j) (upd (nbA es wo j) (atE uE es j) (nbA es wo j (atE uE es j) ++ [atE vE es j]) (atE vE es j) ++ [atE uE es j])
    else nbA es wo j

theorem nbA_len (es : List RE) (wo : Nat → Bool) (j v : Nat) : (nbA es wo j v).length ≤ 2 * j := by
  induction j generalizing v with
  | zero => simp [nbA]
  | succ j ih =>
    simp only [nbA]
    split
    · simp only [upd]
      repeat' split
      all_goals (try simp only [List.length_append, List.length_singleton]); all_goals (have := ih (atE uE es j); have := ih (atE vE es j); have := ih v; omega)
    · have := ih v; omega

theorem nbA_mem {es : List RE} {wo : Nat → Bool} {j v w : Nat} : w ∈ nbA es wo j v ↔ ∃ i, i < j ∧ wo (atE uE es i) = false ∧ wo (atE vE es i) = false ∧ ((atE uE es i = v ∧ atE vE es i = w) ∨ (atE vE es i = v ∧ atE uE es i = w)) := by
  induction j generalizing v w with
  | zero => simp [nbA]
  | succ j ih =>
    have key : w ∈ nbA es wo (j + 1) v ↔ w ∈ nbA es wo j v ∨ (wo (atE uE es j) = false ∧ wo (atE vE es j) = false ∧ ((atE uE es j = v ∧ atE vE es j = w) ∨ (atE vE es j = v ∧ atE uE es j = w))) := by
      simp only [nbA]
      by_cases c : wo (atE uE es j) = false ∧ wo (atE vE es j) = false
      · rw [if_pos c]
        simp only [c.1, c.2, true_and]
        by_cases h2 : v = atE vE es j
        · rw [h2, upd_same]
          by_cases h1 : atE vE es j = atE uE es j
          · rw [h1, upd_same]; simp [eq_comm]; try omega
          · rw [upd_ne _ _ h1]; simp [Ne.symm h1, eq_comm]
        · rw [upd_ne _ _ h2]
          by_cases h1 : v = atE uE es j
          · rw [h1, upd_same]; rw [h1] at h2; simp [Ne.symm h2, eq_comm]
          · rw [upd_ne _ _ h1]; simp [Ne.symm h1, Ne.symm h2]
      · rw [if_neg c]
        constructor
        · exact .inl
        · rintro (h | ⟨h1, h2, _⟩)
          · exact h
          · exact absurd ⟨h1, h2⟩ c
    rw [key, ih]
    constructor
    · rintro (⟨i, h1, h2⟩ | h)
      · exact ⟨i, by omega, h2⟩
      · exact ⟨j, by omega, h⟩
    · rintro ⟨i, h1, h2⟩
      by_cases e : i = j
      · subst e; exact .inr h2
      · exact .inl ⟨i, by omega, h2⟩

theorem nbA_adj {es : List RE} {wo : Nat → Bool} {v w : Nat} : w ∈ nbA es wo es.length v ↔ AdjW es wo v w := by
  rw [nbA_mem]
  constructor
  · rintro ⟨i, h1, h2, h3, ⟨rfl, rfl⟩ | ⟨rfl, rfl⟩⟩
    · exact ⟨h2, h3, i, h1, .inl ⟨rfl, rfl⟩⟩
    · exact ⟨h3, h2, i, h1, .inr ⟨rfl, rfl⟩⟩
  · rintro ⟨h2, h3, i, h1, ⟨rfl, rfl⟩ | ⟨rfl, rfl⟩⟩
    · exact ⟨i, h1, h2, h3, .inl ⟨rfl, rfl⟩⟩
    · exact ⟨i, h1, h3, h2, .inr ⟨rfl, rfl⟩⟩

/-- What is left to do. -/
def mea (f : Nat → Nat) (seen : Nat → Bool) : Nat → Nat
  | 0 => 0
  | n + 1 => mea f seen n + if seen n = true then 0 else f n
theorem mea_le {f : Nat → Nat} {seen : Nat → Bool} {B : Nat} (n : Nat) (h : ∀ v, v < n → f v ≤ B) : mea f seen n ≤ n * B := by
  induction n with
  | zero => simp [mea]
  | succ n ih =>
    have h1 := ih fun v hv => h v (by omega)
    have h2 := h n (by omega)
    simp only [mea, Nat.add_mul, Nat.one_mul]
    split <;> omega
theorem mea_ge {f : Nat → Nat} {seen : Nat → Bool} {n v : Nat} (hv : n ≤ v) : mea f (upd seen v true) n = mea f seen n := by
  induction n with
  | zero => rfl
  | succ n ih => simp only [mea]; rw [ih (by omega), upd_ne _ _ (by omega)]
theorem mea_upd {f : Nat → Nat} {seen : Nat → Bool} {n v : Nat} (hv : v < n) (h : seen v = false) : mea f (upd seen v true) n + f v = mea f seen n := by
  induction n with
  | zero => omega
  | succ n ih =>
    simp only [mea]
    by_cases e : v = n
    · subst e
      rw [mea_ge (Nat.le_refl _), upd_same, h]; simp
    · have := ih (by omega)
      rw [upd_ne _ _ (Ne.symm e)]
      omega

theorem row_push' {α : Type} {mk : α → Value} {ty : TypeId} {Q h : Heap} {bo bb n n' : Nat} {rx : Nat → Value} {rl : Nat → List Nat} {rb : Nat → Option Nat} {f : Nat → α} {K : Value → Heap → Prop} (fo : Q.fresh bo) (hob : bo ≠ bb) (l : Le Q h) (rows : Rows Q h bo bb n rx rl rb) (b : GA mk ty h bb n' f)
    {w j r c : Nat} (hw : w < n) (hr : h.cell r 0 = some (.int .i64 j)) (hll : (rl w).length < 1000000000)
    (hK : ∀ x' h' rb', (∃ A k c, x' = .slice A k c) → Le h h' → h'.canB bo w = true → Le Q (h'.set bo w x') → Rows Q (h'.set bo w x') bo bb n (upd rx w x') (upd rl w (rl w ++ [j])) rb' → GA mk ty (h'.set bo w x') bb n' f → K x' h') :
    AP T 26 (rx w) (.slice (some ⟨r, 0, none⟩) 1 c) (fun x' h' => Le h h' ∧ (Cons h' → K x' h')) h := by
  refine AP_push (i := j) el_26 (rows.gl _ hw) l hll hr ?_
  intro x' h' bk' gl' l' hle hbk' kp
  refine ⟨hle trivial, fun _ => ?_⟩
  have hkb : bk' ≠ some bb := by
    rcases hbk' with rfl | ⟨r', rfl, hr'⟩
    · exact rows.nb _ hw
    · exact fun e => hr'.nei b.info (by cases e; rfl)
  have hkO : bk' ≠ some bo := by
    rcases hbk' with rfl | ⟨r', rfl, hr'⟩
    · exact rows.no _ hw
    · exact fun e => hr'.nei rows.arr.info (by cases e; rfl)
  obtain ⟨A2, c2, hx2, _⟩ := gl'.shape
  exact hK x' h' _ ⟨A2, _, c2, hx2⟩ (hle trivial) ((rows.arr.keep kp hkO).can hw) (l'.set_fresh fo _ _) (rows.push hw ⟨_, b.info⟩ gl' hbk' kp) ((b.keep kp hkb).other hob.symm _)

theorem and_one (a : Nat) (ha : a < 1000000000) : binV T .and 3 (.int .i64 a) (.int .i64 1) = some (.int .i64 (a % 2 : Nat)) := by
  have e : binV T .and 3 (.int .i64 a) (.int .i64 1) = some (.int .i64 (IntKind.i64.wrap (BitVec.ofInt 64 a &&& BitVec.ofInt 64 1).toNat)) := by kernel_rfl
  rw [e]
  have e2 : (BitVec.ofInt 64 (a : Int) &&& BitVec.ofInt 64 1).toNat = a % 2 := by
    rw [BitVec.toNat_and, BitVec.toNat_ofInt, BitVec.toNat_ofInt]
    have h1 : ((a : Int) % (2 ^ 64 : Nat)).toNat = a := by omega
    have h2 : ((1 : Int) % (2 ^ 64 : Nat)).toNat = 1 := by omega
    rw [h1, h2, Nat.and_one_is_mod]
  rw [e2, wrap_in (by omega) (by omega)]

theorem odd_c {h : Heap} {n : Nat} {x : Value} {es : List RE} {wo : Nat → Bool} {bw cw : Nat} (hx : ES h x es) (t : Fine n es) (hw : BA h bw n wo) :
    HCalls Try.prog 62 #[.agg #[.int .i64 n, x], .slice (some ⟨bw, 0, none⟩) n cw] h fun en h' => Le h h' ∧ ∃ (seen : Nat → Bool) (cs : List (List Nat)), en = .returned (.int .i64 (oddN cs)) ∧ Parts n wo (AdjW es wo) seen cs ∧ ∀ v, v < n → seen v = true := by
  apply H62
  unfold F62
  obtain ⟨R, hR⟩ : ∃ R : Ending → Heap → Prop, ∀ en h', R en h' ↔ (Le h h' ∧ ∃ (seen : Nat → Bool) (cs : List (List Nat)), en = .returned (.int .i64 (oddN cs)) ∧ Parts n wo (AdjW es wo) seen cs ∧ ∀ v, v < n → seen v = true) := ⟨_, fun _ _ => Iff.rfl⟩
  have hRe : (fun en h' => Le h h' ∧ ∃ (seen : Nat → Bool) (cs : List (List Nat)), en = .returned (.int .i64 (oddN cs)) ∧ Parts n wo (AdjW es wo) seen cs ∧ ∀ v, v < n → seen v = true) = R := by funext en h'; exact propext (hR en h').symm
  rw [hRe]
  clear hRe
  have hn := t.n1
  have hm := t.m
  intro r hr
  have lS := Heap.le_new hr (Value.cells (.agg #[.int .i64 n, x])) 25
  have c0 : (h.new r (Value.cells (.agg #[.int .i64 n, x])) 25).cell r 0 = some (.int .i64 n) := by simp
  have c1 : (h.new r (Value.cells (.agg #[.int .i64 n, x])) 25).cell r 1 = some x := by simp
  have hx := hx.le lS
  have hw := hw.le lS
  generalize h.new r (Value.cells (.agg #[.int .i64 n, x])) 25 = S at *
  obtain ⟨A, cx, rfl, hcap, hA⟩ := hx.shape
  simp [c0, ms_77 n (by omega) (by omega)]
  intro bo hbo
  have l4 := Heap.le_new hbo (zrow #[.slice none 0 0] n) 26
  have a4 := GA.fresh (α := Value) id 26 S bo n (.slice none 0 0)
  simp only [id] at a4
  generalize S.new bo (zrow #[.slice none 0 0] n) 26 = h4 at l4 a4
  have hob : bo ≠ bw := (hbo.nei hw.info).symm
  simp [l4.cell _ _ _ c1]
  obtain ⟨I, hI⟩ : ∃ I : Nat → List Value → Heap → Prop, ∀ m xs h1, I m xs h1 ↔ ∃ (j : Nat) (rx : Nat → Value) (rb : Nat → Option Nat), xs = [.int .i64 j] ∧ j ≤ es.length ∧ m = es.length - j ∧ Le S h1 ∧ BA h1 bw n wo ∧
      Rows S h1 bo bw n rx (nbA es wo j) rb := ⟨_, fun _ _ _ => Iff.rfl⟩
  refine ⟨I, ⟨_, (hI _ _ _).2 ⟨0, _, fun _ => none, rfl, by omega, rfl, l4, hw.le l4, a4, fun v _ => GL.nil _ _ _ _, by simp, by simp, by simp⟩⟩, ?_⟩
  clear l4 a4 h4 hA
  intro m X h6 hI1
  obtain ⟨j, rx, rb, hX, hj, rfl, l6, b6, rows⟩ := (hI _ _ _).1 hI1
  simp only [List.cons.injEq, and_true] at hX
  simp only [hX]
  simp
  refine ⟨fun hlt => ?_, fun hge => ?_⟩
  · obtain ⟨A', cx', e', _, hA⟩ := hx.shape
    cases e'
    have he := List.getElem?_eq_getElem hlt
    obtain ⟨b, o, rfl, e0, e1, e2, e3⟩ := hA j _ he
    generalize he' : es[j] = e at e0 e1 e2 e3 he
    obtain ⟨q1, q2, q3, q4⟩ := t.lt he
    have w1 : IntKind.i64.wrap ((j : Int) + 1) = ((j + 1 : Nat) : Int) := by rw [wrap_in (by omega) (by omega)]; rfl
    simp [hlt, l6.cell _ _ _ e0, l6.cell _ _ _ e1, l6.cell _ _ _ e2, l6.cell _ _ _ e3]
    intro r3 hr3
    have f3 := hr3.le l6
    have l7 := l6.new hr3 #[.int .i64 0, .int .i64 0, .int .i64 0, .int .i64 0] 40
    simp [setL_cons]
    obtain ⟨h7, hh7⟩ : ∃ h7, h7 = ((((h6.new r3 #[.int .i64 0, .int .i64 0, .int .i64 0, .int .i64 0] 40).set r3 0 (.int .i64 e.u)).set r3 1 (.int .i64 e.v)).set r3 2 (.int .i64 e.cap)).set r3 3 (.int .i64 e.cost) := ⟨_, rfl⟩
    have l8 : Le S h7 := by rw [hh7]; exact (((l7.set_fresh f3 _ _).set_fresh f3 _ _).set_fresh f3 _ _).set_fresh f3 _ _
    have kp7 : Keep (fun b => b ≠ r3) h6 h7 := by rw [hh7]; exact ((((((Keep.refl _ h6).new hr3 _ _).set (fun h => h rfl) _ _).set (fun h => h rfl) _ _).set (fun h => h rfl) _ _).set (fun h => h rfl) _ _)
    have h3o : bo ≠ r3 := hr3.nei rows.arr.info
    have rows7 : Rows S h7 bo bw n rx (nbA es wo j) rb :=
      ⟨rows.arr.keep kp7 h3o, fun v hv => (rows.gl v hv).keep kp7 fun b hb e => by
        have gv := rows.gl v hv
        rw [hb] at gv
        obtain ⟨c, hc⟩ := gv.known
        exact hr3.nei hc e, rows.no, rows.nb, rows.ne⟩
    have b7 := b6.keep kp7 (hr3.nei b6.info)
    have r30 : h7.cell r3 0 = some (.int .i64 e.u) := by rw [hh7]; simp
    have r31 : h7.cell r3 1 = some (.int .i64 e.v) := by rw [hh7]; simp
    rw [← hh7]
    clear hh7 l7
    have ul : ((uE e : Nat) : Int) < (n : Int) := by omega
    have vl : ((vE e : Nat) : Int) < (n : Int) := by omega
    have eu : atE uE es j = uE e := atE_of he
    have ev : atE vE es j = vE e := atE_of he
    rw [q3] at r30
    rw [q4] at r31
    refine JN.mk fun J hJ => ?_
    have hf : ¬ (wo (uE e) = false ∧ wo (vE e) = false) → J (.bool false) h7 := fun hc => by
      rw [hJ]
      simp
      have : nbA es wo (j + 1) = nbA es wo j := by simp only [nbA]; rw [if_neg (by rw [eu, ev]; exact hc)]
      exact ⟨_, by omega, (hI _ _ _).2 ⟨j + 1, _, _, by rw [w1], by omega, rfl, l8, b7, by rw [this]; exact rows7⟩⟩
    have htr : wo (uE e) = false → wo (vE e) = false → J (.bool true) h7 := fun hcu hcv => by
      rw [hJ]
      clear hJ hf
      have hnx : nbA es wo (j + 1) = upd (upd (nbA es wo j) (uE e) (nbA es wo j (uE e) ++ [vE e])) (vE e) (upd (nbA es wo j) (uE e) (nbA es wo j (uE e) ++ [vE e]) (vE e) ++ [uE e]) := by
        simp only [nbA]; rw [if_pos (by rw [eu, ev]; exact ⟨hcu, hcv⟩), eu, ev]
      simp [r30, r31, q1, ul, rows7.arr.cell _ q1]
      intro r4 hr4
      have l9 := l8.new hr4 #[.int .i64 (vE e)] 3
      have rows9 := rows7.keep ((Keep.refl (fun b => b ≠ bw) h7).new hr4 #[.int .i64 (vE e)] 3) hob
      have b9 := b7.new hr4 #[.int .i64 (vE e)] 3
      have r30 := (Heap.le_new hr4 #[.int .i64 (vE e)] 3).cell _ _ _ r30
      have r31 := (Heap.le_new hr4 #[.int .i64 (vE e)] 3).cell _ _ _ r31
      have r40 : (h7.new r4 #[.int .i64 (vE e)] 3).cell r4 0 = some (.int .i64 (vE e)) := by simp
      generalize h7.new r4 #[.int .i64 (vE e)] 3 = h9 at l9 rows9 b9 r30 r31 r40
      refine row_push' hbo hob l9 rows9 b9 q1 r40 (by have := nbA_len es wo j (uE e); omega) ?_
      rintro x' h10 rb1 ⟨A1, k1, c1, rfl⟩ le1 can1 l10 rows10 b10
      have r30 : (h10.set bo (uE e) (.slice A1 k1 c1)).cell r3 0 = some (.int .i64 (uE e)) := by rw [set_cell_nb _ _ _ _ h3o.symm]; exact le1.cell _ _ _ r30
      have r31 : (h10.set bo (uE e) (.slice A1 k1 c1)).cell r3 1 = some (.int .i64 (vE e)) := by rw [set_cell_nb _ _ _ _ h3o.symm]; exact le1.cell _ _ _ r31
      simp [ul, can1]
      intro _
      generalize h10.set bo (uE e) (.slice A1 k1 c1) = h11 at l10 rows10 b10 r30 r31
      have row2 := rows10.arr.cell _ q2
      simp only [id] at row2
      simp [r30, r31, vl, row2]
      intro r5 hr5
      have l12 := l10.new hr5 #[.int .i64 (uE e)] 3
      have rows12 := rows10.keep ((Keep.refl (fun b => b ≠ bw) h11).new hr5 #[.int .i64 (uE e)] 3) hob
      have b12 := b10.new hr5 #[.int .i64 (uE e)] 3
      have r50 : (h11.new r5 #[.int .i64 (uE e)] 3).cell r5 0 = some (.int .i64 (uE e)) := by simp
      generalize h11.new r5 #[.int .i64 (uE e)] 3 = h12 at l12 rows12 b12 r50
      refine row_push' hbo hob l12 rows12 b12 q2 r50 (by
        have h1 := nbA_len es wo j (uE e)
        have h2 := nbA_len es wo j (vE e)
        simp only [upd]
        split
        · simp; omega
        · omega) ?_
      rintro x' h13 rb2 ⟨A2, k2, c2, rfl⟩ - can2 l13 rows13 b13
      rw [← hnx] at rows13
      simp [vl, can2]
      intro _
      exact ⟨_, by omega, (hI _ _ _).2 ⟨j + 1, _, _, by rw [w1], by omega, rfl, l13, b13, rows13⟩⟩
    clear hJ
    have ui : e.u.toNat = uE e := rfl
    have vi : e.v.toNat = vE e := rfl
    rw [ui, vi, q3, q4]
    simp [ul, vl, q1, q2, b7.cell _ q1, b7.cell _ q2]
    rw [ifV_bool]
    refine ⟨fun h1 => ?_, fun h1 => hf fun hc => by rw [hc.1] at h1; cases h1⟩
    have h1' : wo (uE e) = false := by simpa using h1
    cases h2 : wo (vE e) with
    | false => exact htr h1' h2
    | true => exact hf fun hc => by rw [h2] at hc; cases hc.2
  · obtain rfl : j = es.length := by omega
    clear hI1 hI I hX X hge hj
    simp [l6.cell _ _ _ c0, ms_74 n (by omega) (by omega)]
    intro bS hbS
    have hbw : bw ≠ bS := hbS.nei b6.info
    have hbo2 : bo ≠ bS := hbS.nei rows.arr.info
    have S7 := GA.fresh Value.bool 4 h6 bS n false
    have W7 := b6.new hbS (zrow #[.bool false] n) 4
    have l7 := Heap.le_new hbS (zrow #[.bool false] n) 4
    refine CP_bool el_74 S7 W7 ?_
    intro h7 hi7 hc7 S8
    have l8 : Le h6 h7 := by
      refine ⟨fun b i v hv => ?_, fun b x hx => by rw [hi7]; exact l7.info _ _ hx⟩
      have := hbS.ne hv
      rw [hc7 b i (fun h => this h.1)]
      exact l7.cell _ _ _ hv
    clear hi7 hc7 S7 W7 l7
    have c06 := l6.cell _ _ _ c0
    have hRe : ∀ h' (seen : Nat → Bool) (cs : List (List Nat)), Le h6 h' → Parts n wo (AdjW es wo) seen cs → (∀ v, v < n → seen v = true) → R (.returned (.int .i64 (oddN cs))) h' := fun h' seen cs q1 q2 q3 => (hR _ _).2 ⟨lS.trans (l6.trans q1), seen, cs, rfl, q2, q3⟩
    simp [l8.cell _ _ _ c06]
    obtain ⟨I, hI⟩ : ∃ I : Nat → List Value → Heap → Prop, ∀ m xs h5, I m xs h5 ↔ ∃ (k : Nat) (seen : Nat → Bool) (cs : List (List Nat)) (y z : Value), xs = [.int .i64 k, .int .i64 (oddN cs), y, z] ∧ k ≤ n ∧ m = n - k ∧ Le h6 h5 ∧ BA h5 bS n seen ∧ Parts n wo (AdjW es wo) seen cs ∧ cs.length = k ∧ ∀ v, v < k → seen v = true := ⟨_, fun _ _ _ => Iff.rfl⟩
    refine ⟨I, ⟨_, (hI _ _ _).2 ⟨0, _, [], _, _, rfl, Nat.zero_le _, rfl, l8, S8, Parts.start _ _, rfl, fun v hv => by omega⟩⟩, ?_⟩
    clear l8 S8 h7
    intro m X h7 hI1
    obtain ⟨k, seen0, cs, y, z, hX, hk, rfl, l7, S7, ps, hcs, hsn⟩ := (hI _ _ _).1 hI1
    simp only [List.cons.injEq, and_true] at hX
    obtain ⟨hX1, hX2, hX3, hX4⟩ := hX
    simp only [hX1, hX2, hX3, hX4]
    have w1 : IntKind.i64.wrap ((k : Int) + 1) = ((k + 1 : Nat) : Int) := by rw [wrap_in (by omega) (by omega)]; rfl
    simp
    refine ⟨fun hlt => ?_, fun hge => ?_⟩
    · intro z hz
      have zS : bS ≠ z := hz.nei S7.info
      have fz := hz.le l7
      have l8 := l7.new hz #[.int .i64 k] 3
      have S8 := S7.new hz #[.int .i64 k] 3
      have g8 : GL 3 h6 (h7.new z #[.int .i64 k] 3) False (.slice (some ⟨z, 0, none⟩) 1 1) [k] (some z) := by
        refine ⟨fz, 1, rfl, by simp, by simp, fun j i hj => ?_, fun h => h.elim⟩
        match j, hj with
        | 0, hj => cases hj; simp
        | j + 1, hj => simp at hj
      generalize h7.new z #[.int .i64 k] 3 = h8 at l8 S8 g8
      let f : Nat → Nat := fun v => (nbA es wo es.length v).length + 1
      have hfB : ∀ v, v < n → f v ≤ 8193 := fun v _ => by have := nbA_len es wo es.length v; simp only [f]; omega
      obtain ⟨I2, hI2⟩ : ∃ I2 : Nat → List Value → Heap → Prop, ∀ m xs h9, I2 m xs h9 ↔ ∃ (seen : Nat → Bool) (c st : List Nat) (x : Value) (bk : Option Nat), xs = [x, .int .i64 c.length] ∧ m = mea f seen n + st.length ∧ m ≤ 9000000 ∧ Le h6 h9 ∧ BA h9 bS n seen ∧ GL 3 h6 h9 False x st bk ∧ bk ≠ some bS ∧
          Dfs n (AdjW es wo) seen0 k seen c st ∧ c.length + Pair.unseen n seen ≤ n := ⟨_, fun _ _ _ => Iff.rfl⟩
      refine ⟨I2, ⟨_, (hI2 _ _ _).2 ⟨seen0, [], [k], _, some z, rfl, rfl, ?_, l8, S8, g8, by simp [zS.symm], Dfs.start hlt, ?_⟩⟩, ?_⟩
      · have h1 := mea_le (seen := seen0) n hfB
        have h2 : n * 8193 ≤ 1024 * 8193 := Nat.mul_le_mul_right _ (by omega)
        simp
        omega
      · simpa using Blo.unseen_all n seen0
      clear l8 S8 g8 h8 l7 S7 hz fz
      intro m2 X2 h9 hI3
      obtain ⟨seen, c, st, x, bk, hX5, hm2, hms, l9, S9, g9, k9, d, hcl⟩ := (hI2 _ _ _).1 hI3
      simp only [List.cons.injEq, and_true] at hX5
      obtain ⟨hX6, hX7⟩ := hX5
      simp only [hX6, hX7]
      obtain ⟨A9, cx9, hxs, hcx⟩ := g9.shape
      rw [hxs]
      simp
      refine ⟨fun hlt2 => ?_, fun hge2 => ?_⟩
      · obtain ⟨st0, v, rfl⟩ : ∃ st0 v, st = st0 ++ [v] := by
          rcases List.eq_nil_or_concat st with rfl | ⟨a, b, rfl⟩
          · simp at hlt2
          · exact ⟨a, b, by simp⟩
        obtain ⟨b, c', rfl, hx', hc, hcell, gl0⟩ := g9.pop
        rw [hxs] at hx'
        simp only [Value.slice.injEq] at hx'
        obtain ⟨rfl, _, rfl⟩ := hx'
        have hvn := d.st v (by simp)
        have hvn' : (v : Int) < (n : Int) := by omega
        simp at hm2
        have w0' : IntKind.i64.wrap (st0.length : Int) = (st0.length : Int) := by rw [wrap_in (by omega) (by omega)]
        have hlec : st0.length ≤ cx9 := by omega
        have hlt1 : (st0.length : Int) < (st0.length : Int) + 1 := by omega
        simp [w0', hlt1, hcell, hlec, hvn', hvn, S9.cell v hvn]
        rw [ifV_bool]
        refine ⟨fun hns => ?_, fun hs => ?_⟩
        · have hns' : seen v = false := by simpa using hns
          have hwv : wo v = false := by
            cases hw' : wo v with
            | false => rfl
            | true =>
              have := (d.sn v hvn).2 (.inl ((ps.mem v hvn).2 (.inl hw')))
              rw [hns'] at this; cases this
          have row := rows.arr.cell v hvn
          simp only [id] at row
          have l10 := l9.set_fresh hbS v (.bool true)
          have S10 := S9.set (i := v) true
          have g10 := gl0.keep ((Keep.refl (fun b => b ≠ bS) h9).set (fun h => h rfl) v (.bool true)) fun b hb e => k9 (by rw [hb, e])
          simp [S9.can hvn]
          generalize h9.set bS v (.bool true) = h10 at l10 S10 g10
          have hcl2 : c.length + 1 ≤ n := by
            have := Pair.unseen_lt n seen (fun _ => true) (fun _ _ _ => rfl) hvn hns' rfl
            omega
          have w2 : IntKind.i64.wrap ((c.length : Int) + 1) = ((c.length + 1 : Nat) : Int) := by rw [wrap_in (by omega) (by omega)]; rfl
          have nl := nbA_len es wo es.length v
          have hmu := mea_upd (f := f) hvn hns'
          simp [w2, l10.cell _ _ _ row]
          refine AP_app el_26 g10 ((rows.gl v hvn).il.le l10) l10 (by omega) ?_
          intro x' h11 bk' g11 l11 hbk kp
          have kS : bk' ≠ some bS := by
            rcases hbk with rfl | ⟨r', rfl, hr'⟩
            · exact k9
            · exact fun e => hr'.nei S10.info (by cases e; rfl)
          refine ⟨_, ?_, (hI2 _ _ _).2 ⟨_, c ++ [v], _, x', bk', by simp, rfl, ?_, l11, S10.keep kp kS, g11, kS, d.take (wo := wo) hns' (fun w hw => ((adjW t wo).lt w v ((adjW t wo).sy v w (nbA_adj.1 hw))).1) (fun w _ hw => nbA_adj.1 hw) hwv fun w hw => nbA_adj.2 hw, ?_⟩⟩
          · have hfv : f v = (nbA es wo es.length v).length + 1 := rfl
            rw [List.length_append]; omega
          · have hfv : f v = (nbA es wo es.length v).length + 1 := rfl
            rw [List.length_append]; omega
          · have h1 := Blo.unseen_new (n := n) (f2 := upd seen v true) [v] seen (by simp) (fun i hi => by
              by_cases e : i = v
              · rw [e, upd_same]
              · rw [upd_ne _ _ e]; exact hi) fun w hw => by simp at hw; subst hw; exact ⟨hvn, hns', by rw [upd_same]⟩
            simp at h1 ⊢
            omega
        · have hs' : seen v = true := by simpa using hs
          exact ⟨_, by omega, (hI2 _ _ _).2 ⟨seen, c, st0, _, some b, rfl, rfl, by omega, l9, S9, gl0, k9, d.skip hs', hcl⟩⟩
      · have : st = [] := by simpa using hge2
        subst this
        obtain ⟨p2, hk2⟩ := ps.part (adjW t wo) d
        have ho := oddN_le cs
        have w3 : IntKind.i64.wrap ((oddN cs : Int) + ((c.length % 2 : Nat) : Int)) = ((oddN cs + c.length % 2 : Nat) : Int) := by rw [wrap_in (by omega) (by omega)]; rfl
        rw [and_one _ (by omega)]
        simp only [PV_some, bin_add, w1, w3]
        rw [← oddN_app]
        refine ⟨_, by omega, (hI _ _ _).2 ⟨k + 1, seen, cs ++ [c], _, _, rfl, by omega, rfl, l9, S9, p2, by simp [hcs], fun v hv => ?_⟩⟩
        by_cases e : v = k
        · rw [e]; exact hk2
        · exact (d.sn v (by omega)).2 (.inl (hsn v (by omega)))
    · obtain rfl : k = n := by omega
      exact hRe _ _ _ l7 ps hsn

end Go.Proofs.Ythchjolcjicpgaa

/- What vouch.Largest asks, of what Solve answers. -/
namespace Go.Proofs.Ythchjolcjicpgaa
open Go.HW Blo Odd

theorem takenB_mem {g : Gr} {by_ : Nat → Option Nat} {i k : Nat} : i ∈ takenB g by_ k ↔ ∃ v, v < k ∧ by_ v = some i ∧ v < mate g by_ v := by
  induction k with
  | zero => simp [takenB]
  | succ k ih =>
    have key : i ∈ takenB g by_ (k + 1) ↔ i ∈ takenB g by_ k ∨ (by_ k = some i ∧ k < mate g by_ k) := by
      simp only [takenB, List.mem_append]
      cases h : by_ k with
      | none => simp
      | some j =>
        by_cases h2 : k < mate g by_ k
        · simp [h2, eq_comm]
        · simp [h2]
    rw [key, ih]
    constructor
    · rintro (⟨v, h1, h2⟩ | h)
      · exact ⟨v, by omega, h2⟩
      · exact ⟨k, by omega, h⟩
    · rintro ⟨v, h1, h2⟩
      by_cases e : v = k
      · subst e; exact .inr h2
      · exact .inl ⟨v, by omega, h2⟩

theorem takenB_count (g : Gr) (by_ : Nat → Option Nat) (k : Nat) : (takenB g by_ k).length = ((List.range k).filter fun v => (by_ v).isSome && decide (v < mate g by_ v)).length := by
  induction k with
  | zero => rfl
  | succ k ih =>
    rw [List.range_succ, List.filter_append, List.length_append, ← ih]
    simp only [takenB, List.length_append]
    congr 1
    cases h : by_ k with
    | none => simp [h]
    | some j =>
      by_cases h2 : k < mate g by_ k
      · simp [h, h2]
      · simp [h, h2]

section
variable {g : Gr} {by_ : Nat → Option Nat}

/-- Both ends of a taken edge are matched by it. -/
theorem taken_ends (M : Mat g by_) {i v w : Nat} (hi : i ∈ takenB g by_ g.n) (h : g.U i = w ∨ g.V i = w) : by_ w = some i ∧ w < g.n ∧ g.U i ≠ g.V i ∧ i < g.m := by
  obtain ⟨u, hu, hb, _⟩ := takenB_mem.1 hi
  have e := M.edge hu hb
  have hb2 := M.by_mate hu
  rw [hb] at hb2
  have hne : g.U i ≠ g.V i := by rcases e.or with h | h <;> rw [h.1, h.2] <;> first | exact e.ne | exact e.ne.symm
  have : w = u ∨ w = mate g by_ u := by rcases e.or with h' | h' <;> omega
  rcases this with rfl | rfl
  · exact ⟨hb, hu, hne, e.lt⟩
  · exact ⟨hb2, M.lt hu, hne, e.lt⟩

theorem takenB_nodup (M : Mat g by_) (k : Nat) (hk : k ≤ g.n) : (takenB g by_ k).Nodup := by
  induction k with
  | zero => simp [takenB]
  | succ k ih =>
    simp only [takenB]
    rw [List.nodup_append]
    refine ⟨ih (by omega), ?_, fun a ha b hb => ?_⟩
    · split
      · split <;> simp
      · simp
    · rintro rfl
      split at hb
      · next i hi =>
        split at hb
        · next hlt =>
          simp at hb
          subst hb
          obtain ⟨v, hv, hb1, hb2⟩ := takenB_mem.1 ha
          have e1 := M.edge (show v < g.n by omega) hb1
          have e2 := M.edge (show k < g.n by omega) hi
          have : k = v ∨ k = mate g by_ v := by rcases e1.or with h | h <;> rcases e2.or with h' | h' <;> omega
          rcases this with h | h
          · omega
          · rw [h, M.inv (by omega)] at hlt; omega
        · simp at hb
      · simp at hb

theorem matched_count (M : Mat g by_) : 2 * (takenB g by_ g.n).length + ((List.range g.n).filter fun v => (by_ v).isNone).length = g.n := by
  have nr := List.nodup_range (n := g.n)
  have h1 := split_len (fun v => (by_ v).isNone) (List.range g.n)
  have h2 := split_len (fun v => decide (v < mate g by_ v)) ((List.range g.n).filter fun x => !(by_ x).isNone)
  rw [List.length_range] at h1
  rw [takenB_count]
  have e1 : (((List.range g.n).filter fun x => !(by_ x).isNone).filter fun v => decide (v < mate g by_ v)).length = ((List.range g.n).filter fun v => (by_ v).isSome && decide (v < mate g by_ v)).length := by
    refine same_len id id ((nr.filter _).filter _) (nr.filter _) (fun x hx => ⟨?_, rfl⟩) fun x hx => ⟨?_, rfl⟩
    · simp only [List.mem_filter] at hx ⊢
      refine ⟨hx.1.1, ?_⟩
      have := hx.1.2
      simp at this
      simpa [this] using hx.2
    · simp only [List.mem_filter] at hx ⊢
      obtain ⟨h1, h2⟩ := hx
      simp at h2
      exact ⟨⟨h1, by simp [h2.1]⟩, by simpa using h2.2⟩
  have e2 : (((List.range g.n).filter fun x => !(by_ x).isNone).filter fun v => !decide (v < mate g by_ v)).length = ((List.range g.n).filter fun v => (by_ v).isSome && decide (v < mate g by_ v)).length := by
    refine same_len (mate g by_) (mate g by_) ((nr.filter _).filter _) (nr.filter _) (fun x hx => ?_) fun x hx => ?_
    · simp only [List.mem_filter, List.mem_range] at hx
      obtain ⟨⟨hn, hb⟩, hl⟩ := hx
      have hb' : (by_ x).isSome = true := by simpa using hb
      have hbn := Option.isSome_iff_ne_none.1 hb'
      have hne := M.ne hn hbn
      simp at hl
      refine ⟨?_, M.inv hn⟩
      simp only [List.mem_filter, List.mem_range]
      refine ⟨M.lt hn, ?_⟩
      rw [M.by_mate hn, M.inv hn, hb']
      simp
      omega
    · simp only [List.mem_filter, List.mem_range] at hx
      obtain ⟨hn, hx⟩ := hx
      simp at hx
      refine ⟨?_, M.inv hn⟩
      simp only [List.mem_filter, List.mem_range]
      refine ⟨⟨M.lt hn, ?_⟩, ?_⟩
      · rw [M.by_mate hn]; simp [hx.1]
      · rw [M.inv hn]; simp; omega
  omega
end

theorem adjW_nbr {n : Nat} {es : List RE} (t : Fine n es) {wo : Nat → Bool} {cl : List Nat} (hwo : ∀ v, wo v = decide (v ∈ cl)) : AdjW es wo = Nbr (toB n es t) cl := by
  funext v w
  apply propext
  unfold AdjW Nbr
  rw [hwo, hwo]
  simp only [decide_eq_false_iff_not]
  rfl

theorem SolvedB.large {n : Nat} {es : List RE} {t : Fine n es} {ml cl : List Nat} (s : SolvedB (toB n es t) ml cl) : Mtc n es ml (fun _ => 1) ∧ Rise n cl ∧
    ∀ (wo seen : Nat → Bool) (cs : List (List Nat)), (∀ v, wo v = decide (v ∈ cl)) → Parts n wo (AdjW es wo) seen cs → (∀ v, v < n → seen v = true) → 2 * ml.length + oddN cs = n + cl.length := by
  obtain ⟨by_, re, M, hF, hre, hp, hs, hc, hm⟩ := s
  have F : Done (toB n es t) by_ re cl := ⟨M, hF, hre, hm⟩
  have hnd : ml.Nodup := (hp.nodup_iff).2 (takenB_nodup M _ (Nat.le_refl _))
  have hin : ∀ i, i ∈ ml → i ∈ takenB (toB n es t) by_ (toB n es t).n := fun i hi => hp.mem_iff.1 hi
  have eU : (toB n es t).U = atE uE es := rfl
  have eV : (toB n es t).V = atE vE es := rfl
  have ends : ∀ i e, i ∈ ml → es[i]? = some e → (toB n es t).U i = uE e ∧ (toB n es t).V i = vE e ∧ e.u = uE e ∧ e.v = vE e ∧ uE e ≠ vE e := fun i e hi he => by
    obtain ⟨_, _, q3, q4⟩ := t.lt he
    have e1 : (toB n es t).U i = uE e := atE_of he
    have e2 : (toB n es t).V i = vE e := atE_of he
    have h4 := (taken_ends (v := 0) M (hin i hi) (.inl rfl)).2.2.1
    rw [e1, e2] at h4
    exact ⟨e1, e2, q3, q4, h4⟩
  refine ⟨⟨⟨rise hs hnd, fun i hi => ?_⟩, fun i e hi he h => ?_, fun v hv => ?_⟩, ⟨hc, fun v hv => ((hm v).1 hv).1⟩, fun wo seen cs hwo ps all => ?_⟩
  · exact (taken_ends (v := 0) M (hin i hi) (.inl rfl)).2.2.2
  · obtain ⟨_, _, q3, q4, q5⟩ := ends i e hi he
    omega
  · have : deg es ml v ≤ 1 := by
      refine deg_one_le hnd (fun i e hi he => ?_) fun i j e f hi hj he hf h1 h2 => ?_
      · obtain ⟨_, _, q3, q4, q5⟩ := ends i e hi he
        unfold endsAt
        split <;> split <;> omega
      · have key : ∀ i e, i ∈ ml → es[i]? = some e → 0 < endsAt e v → by_ v = some i := fun i e hi he h => by
          obtain ⟨q1, q2, q3, q4, q5⟩ := ends i e hi he
          refine (taken_ends (v := 0) M (hin i hi) ?_).1
          rw [q1, q2]
          unfold endsAt at h
          split at h
          · left; omega
          · split at h
            · right; omega
            · omega
        have k1 := key i e hi he h1
        rw [key j f hj hf h2] at k1
        cases k1; rfl
    omega
  · rw [adjW_nbr t hwo] at ps
    have h1 := F.count hwo (Pair.nodup_of_lt hc) ps all
    have h2 := matched_count M
    have h3 := hp.length_eq
    have h4 : (toB n es t).n = n := rfl
    omega

end Go.Proofs.Ythchjolcjicpgaa

/- The contract of vouch.Largest, where the proof is right. -/
namespace Go.Proofs.Ythchjolcjicpgaa
open Go.HW Odd

/-- What the proof counts. -/
def Counts (n : Nat) (es : List RE) (ml cl : List Nat) : Prop := ∀ (wo seen : Nat → Bool) (cs : List (List Nat)), (∀ v, wo v = decide (v ∈ cl)) → Parts n wo (AdjW es wo) seen cs → (∀ v, v < n → seen v = true) → 2 * ml.length + oddN cs = n + cl.length

theorem lar1_c {h : Heap} {r r1 r2 r3 n : Nat} {gx mx cx : Value} {es : List RE} {ml cl : List Nat} (c0 : h.cell r 0 = some (.int .i64 n)) (c1 : h.cell r 1 = some gx) (c2 : h.cell r1 0 = some mx) (c3 : h.cell r2 0 = some cx)
    (i3 : h.info r3 = some (3, 1)) (hg : ES h gx es) (hm : IL h mx ml) (hc : IL h cx cl) (f : Fine n es) (M : Mtc n es ml fun _ => 1) (R : Rise n cl) (C : Counts n es ml cl) :
    HCalls Try.prog 61 #[.pointer (some ⟨r, 0, none⟩), .pointer (some ⟨r1, 0, none⟩), .pointer (some ⟨r2, 0, none⟩), .pointer (some ⟨r3, 0, none⟩)] h fun e h' => e = .returned (.tuple #[]) ∧ ∃ h1, Le h h1 ∧ h' = h1.set r3 0 (.int .i64 ml.length) := by
  apply H61
  unfold F61
  have n1 := f.n1
  have m1 := f.m
  simp [c0, c1]
  refine CALL_mk en47 (right_ok hg f) ?_
  rintro e h1 ⟨rfl, l1⟩
  simp [l1.cell _ _ _ c0, l1.cell _ _ _ c1, l1.cell _ _ _ c2]
  refine CALL_mk en48 (matched_ok (hg.le l1) (hm.le l1) f M fun v h1 K E hv l k => ?_) ?_
  · simp only [CL]
    refine CALL_mk en49 (H49 (R := fun e h' => e = .returned (.int .i64 1) ∧ h' = h1) (by simp [F49])) ?_
    rintro e h2 ⟨rfl, rfl⟩
    exact k _ (Le.refl _)
  rintro e h2 ⟨rfl, l2⟩
  have L2 := l1.trans l2
  obtain ⟨Am, cm, rfl, _⟩ := id hm
  obtain ⟨Ac, cc, rfl, _⟩ := id hc
  have hml := M.rise.len
  have hcl := R.len
  simp [L2.cell _ _ _ c0, L2.cell _ _ _ c1, L2.cell _ _ _ c2, L2.cell _ _ _ c3]
  refine CALL_mk en50 (marked_ok (hc.le L2) R (by omega)) ?_
  rintro e h3 ⟨b, rfl, l3, _, b3⟩
  have L3 := L2.trans l3
  simp only [endR_ret]
  refine ⟨l3, fun _ => CALL_mk en62 (odd_c (hg.le L3) f b3) ?_⟩
  rintro e h4 ⟨l4, seen, cs, rfl, ps, all⟩
  have L4 := L3.trans l4
  have hco := C _ seen cs (fun v => rfl) ps all
  have w1 : IntKind.i64.wrap (2 * (ml.length : Int)) = 2 * (ml.length : Int) := wrap_in (by omega) (by omega)
  have w2 : IntKind.i64.wrap ((n : Int) + (cl.length : Int)) = (n : Int) + (cl.length : Int) := wrap_in (by omega) (by omega)
  have w3 : IntKind.i64.wrap ((n : Int) + (cl.length : Int) - (oddN cs : Int)) = 2 * (ml.length : Int) := by rw [show (n : Int) + (cl.length : Int) - (oddN cs : Int) = 2 * (ml.length : Int) by omega]; exact w1
  simp only [endR_ret]
  refine ⟨l4, fun _ => ?_⟩
  simp [w1, w2, w3]
  refine need_t _ _ ?_
  simp [L4.cell _ _ _ c2, can_info (L4.info _ _ i3)]
  exact fun _ => ⟨_, L4, rfl⟩

theorem largest_ok {h : Heap} {n : Nat} {gx mx cx : Value} {es : List RE} {ml cl : List Nat} (hg : ES h gx es) (hm : IL h mx ml) (hc : IL h cx cl) (f : Fine n es) (M : Mtc n es ml fun _ => 1) (R : Rise n cl) (C : Counts n es ml cl) :
    HCalls Try.prog 24 #[.agg #[.int .i64 n, gx], mx, cx] h fun e h' => e = .returned (.tuple #[.int .i64 ml.length, .int .i64 0]) ∧ Le h h' := by
  apply H24
  unfold F24
  intro r hr r1 hr1 r2 hr2 r3 hr3
  obtain ⟨Am, cm, hmx, _⟩ := id hm
  obtain ⟨Ac, cc, hcx, _⟩ := id hc
  have vm : Value.cells mx = #[mx] := by rw [hmx]; rfl
  have vc : Value.cells cx = #[cx] := by rw [hcx]; rfl
  have l1 : Le h (((h.new r (Value.cells (.agg #[.int .i64 n, gx])) 25).new r1 (Value.cells mx) 26).new r2 (Value.cells cx) 26) := ((Heap.le_new hr _ _).new hr1 _ _).new hr2 _ _
  have n1 : r ≠ r1 := hr1.nei (x := (25, 2)) (by simp)
  have n2 : r ≠ r2 := hr2.nei (x := (25, 2)) (by simp [n1])
  have n3 : r1 ≠ r2 := hr2.nei (x := (26, 1)) (by simp [vm])
  have n4 : r ≠ r3 := hr3.nei (x := (25, 2)) (by simp [n1, n2])
  have n5 : r1 ≠ r3 := hr3.nei (x := (26, 1)) (by simp [vm, n3])
  have n6 : r2 ≠ r3 := hr3.nei (x := (26, 1)) (by simp [vc])
  obtain ⟨S, hS⟩ : ∃ S, S = ((h.new r (Value.cells (.agg #[.int .i64 n, gx])) 25).new r1 (Value.cells mx) 26).new r2 (Value.cells cx) 26 := ⟨_, rfl⟩
  have c0 : S.cell r 0 = some (.int .i64 n) := by rw [hS]; simp [n1, n2]
  have c1 : S.cell r 1 = some gx := by rw [hS]; simp [n1, n2]
  have c2 : S.cell r1 0 = some mx := by rw [hS]; simp [n3, vm]
  have c3 : S.cell r2 0 = some cx := by rw [hS]; simp [vc]
  rw [← hS] at l1 hr3 ⊢
  clear hS
  simp
  have l2 : Le S ((S.new r3 #[.int .i64 0] 3).set r3 0 (.int .i64 0)) := (Heap.le_new hr3 _ _).set_fresh hr3 _ _
  have i3 : ((S.new r3 #[.int .i64 0] 3).set r3 0 (.int .i64 0)).info r3 = some (3, 1) := by simp
  generalize (S.new r3 #[.int .i64 0] 3).set r3 0 (.int .i64 0) = H at l2 i3
  refine CALL_mk en45 (look_c (Q := fun c h' => c = 0 ∧ Le S h' ∧ h'.cell r3 0 = some (.int .i64 ml.length)) en61 fun q hq => ?_) ?_
  · have l3 := l2.new hq #[.int .i64 0] 27
    have hne : r3 ≠ q := hq.nei i3
    have L := l1.trans l3
    refine (lar1_c (l3.cell _ _ _ c0) (l3.cell _ _ _ c1) (l3.cell _ _ _ c2) (l3.cell _ _ _ c3) (by simpa [hne] using i3) (hg.le L) (hm.le L) (hc.le L) f M R C).mono ?_
    rintro e h' ⟨rfl, h1, l4, rfl⟩
    refine ⟨by simpa using l4.info q (27, 1) (by simp), ?_, 0, .inl ⟨rfl, _, rfl⟩, fun h2 l5 => ⟨rfl, ?_, ?_⟩⟩
    · rw [set_cell_nb _ _ _ _ hne.symm]
      exact l4.cell q 0 _ (by simp)
    · refine (le_drop (b := q) ((l3.trans l4).set_fresh hr3 0 (.int .i64 ml.length)) (hq.le l2)).trans l5
    · exact l5.cell _ _ _ (by simp [Heap.drop, hne])
  · rintro e h' ⟨c, rfl, rfl, l3, hcell⟩
    simp [hcell]
    exact l1.trans l3

end Go.Proofs.Ythchjolcjicpgaa
