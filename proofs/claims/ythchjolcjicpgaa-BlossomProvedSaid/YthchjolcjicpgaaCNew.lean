/- blossom: the contract of newSearch. -/
import Derived.Test.YthchjolcjicpgaaCBlo
import Derived.Test.YthchjolcjicpgaaCSolve
import Derived.Test.YthchjolcjicpgaaMBlo
import Derived.Test.YthchjolcjicpgaaCCheck
namespace Go.Proofs.Ythchjolcjicpgaa
open Go.HW Blo

def uE (e : RE) : Nat := e.u.toNat
def vE (e : RE) : Nat := e.v.toNat

theorem _root_.Go.HW.Fine.lt {n : Nat} {es : List RE} (t : Fine n es) {i : Nat} {e : RE} (h : es[i]? = some e) : uE e < n ∧ vE e < n ∧ e.u = uE e ∧ e.v = vE e := by
  have h1 := (t.ok i e h).1
  unfold RE.inn at h1
  unfold uE vE
  omega

/-- The graph of a list of edges. -/
def toB (n : Nat) (es : List RE) (t : Fine n es) : Gr where
  n := n
  m := es.length
  U := atE uE es
  V := atE vE es
  hU i hi := by rw [atE_of (List.getElem?_eq_getElem hi)]; exact (t.lt (List.getElem?_eq_getElem hi)).1
  hV i hi := by rw [atE_of (List.getElem?_eq_getElem hi)]; exact (t.lt (List.getElem?_eq_getElem hi)).2.1

/-- The edges at a node, of the first 'j'. -/
def nxA (es : List RE) (j v : Nat) : List Nat := (List.range j).filter fun i => decide (atE uE es i ≠ atE vE es i) && (atE uE es i == v || atE vE es i == v)

theorem nxA_len (es : List RE) (j v : Nat) : (nxA es j v).length ≤ j := by
  have := List.length_filter_le (fun i => decide (atE uE es i ≠ atE vE es i) && (atE uE es i == v || atE vE es i == v)) (List.range j)
  simpa [nxA] using this
theorem nxA_mem {es : List RE} {j v i : Nat} : i ∈ nxA es j v ↔ i < j ∧ atE uE es i ≠ atE vE es i ∧ (atE uE es i = v ∨ atE vE es i = v) := by simp [nxA]
theorem nxA_loop {es : List RE} {j : Nat} (h : atE uE es j = atE vE es j) : nxA es (j + 1) = nxA es j := by
  funext v; simp [nxA, List.range_succ, List.filter_append, h]
theorem nxA_edge {es : List RE} {j : Nat} (h : atE uE es j ≠ atE vE es j) : nxA es (j + 1) = upd (upd (nxA es j) (atE uE es j) (nxA es j (atE uE es j) ++ [j])) (atE vE es j) (nxA es j (atE vE es j) ++ [j]) := by
  funext v
  have e : nxA es (j + 1) v = nxA es j v ++ (if atE uE es j = v ∨ atE vE es j = v then [j] else []) := by
    simp only [nxA, List.range_succ, List.filter_append, List.filter_cons, List.filter_nil]
    congr 1
    by_cases c : atE uE es j = v ∨ atE vE es j = v
    · rw [if_pos (by simpa [h] using c), if_pos c]
    · rw [if_neg (by simpa [h] using c), if_neg c]
  rw [e]
  by_cases c2 : v = atE vE es j
  · subst c2; rw [upd_same, if_pos (.inr rfl)]
  · rw [upd_ne _ _ c2]
    by_cases c1 : v = atE uE es j
    · subst c1; rw [upd_same, if_pos (.inl rfl)]
    · rw [upd_ne _ _ c1, if_neg (by rintro (h | h) <;> simp_all), List.append_nil]

theorem Rows.keepP {Q h h' : Heap} {bo bb left : Nat} {rx : Nat → Value} {rl : Nat → List Nat} {rb : Nat → Option Nat} {K : Nat → Prop} (a : Rows Q h bo bb left rx rl rb) (k : Keep K h h') (hb : K bo) (hr : ∀ v b, v < left → rb v = some b → K b) : Rows Q h' bo bb left rx rl rb :=
  ⟨a.arr.keep k hb, fun v hv => (a.gl v hv).keep k fun b hb => hr v b hv hb, a.no, a.nb, a.ne⟩

theorem row_push {Q h : Heap} {bo bb n : Nat} {rx : Nat → Value} {rl : Nat → List Nat} {rb : Nat → Option Nat} {f : Nat → Int} {K : Value → Heap → Prop} (fo : Q.fresh bo) (hob : bo ≠ bb) (l : Le Q h) (rows : Rows Q h bo bb n rx rl rb) (b : IA h bb n f)
    {w j r c : Nat} (hw : w < n) (hr : h.cell r 0 = some (.int .i64 j)) (hll : (rl w).length < 1000000000)
    (hK : ∀ x' h' rb', (∃ A k c, x' = .slice A k c) → Le h h' → h'.canB bo w = true → Le Q (h'.set bo w x') → Rows Q (h'.set bo w x') bo bb n (upd rx w x') (upd rl w (rl w ++ [j])) rb' → IA (h'.set bo w x') bb n f → K x' h') :
    AP T 26 (rx w) (.slice (some ⟨r, 0, none⟩) 1 c) (fun x' h' => Le h h' ∧ (Cons h' → K x' h')) h := by
  refine AP_push (i := j) el_26 (rows.gl _ hw) l hll hr ?_
  intro x' h' bk' gl' l' hle hbk' kp
  refine ⟨hle trivial, fun _ => ?_⟩
  have hkb : bk' ≠ some bb := by
    rcases hbk' with rfl | ⟨r', rfl, hr'⟩
    · exact rows.nb _ hw
    · exact fun e => hr'.nei b.info (by cases e; rfl)
  have hkO : bk' ≠ some bo := by
    rcases hbk' with rfl | ⟨r', rfl, hr'⟩
    · exact rows.no _ hw
    · exact fun e => hr'.nei rows.arr.info (by cases e; rfl)
  obtain ⟨A2, c2, hx2, _⟩ := gl'.shape
  exact hK x' h' _ ⟨A2, _, c2, hx2⟩ (hle trivial) ((rows.arr.keep kp hkO).can hw) (l'.set_fresh fo _ _) (rows.push hw ⟨_, b.info⟩ gl' hbk' kp) ((b.keep kp hkb).other hob.symm _)

theorem new_c {h : Heap} {n : Nat} {x : Value} {es : List RE} (hx : ES h x es) (t : Fine n es) :
    HCalls Try.prog 54 #[.agg #[.int .i64 n, x]] h fun en h' => ∃ p bb S, en = .returned (.pointer (some ⟨p, 0, none⟩)) ∧ Le h S ∧ BS0 S p bb (toB n es t) es (nxA es es.length) ∧ h' = putBy S bb n fun _ => none := by
  suffices H : HCalls Try.prog 54 #[.agg #[.int .i64 n, x]] h fun en h' => ∃ p bb S, en = .returned (.pointer (some ⟨p, 0, none⟩)) ∧ Le h S ∧ BS0 S p bb (toB n es t) es (nxA es es.length) ∧ Le S h' ∧ IA h' bb n fun _ => -1 by
    refine H.weak ?_
    rintro e h' ⟨p, bb, S, rfl, l, b, l', i⟩
    exact ⟨_, putBy_of (b := fun _ => none) l' i, p, bb, S, rfl, l, b, rfl⟩
  apply H54
  unfold F54
  obtain ⟨R, hR⟩ : ∃ R : Ending → Heap → Prop, ∀ en h', R en h' ↔ (∃ p bb S, en = .returned (.pointer (some ⟨p, 0, none⟩)) ∧ Le h S ∧ BS0 S p bb (toB n es t) es (nxA es es.length) ∧ Le S h' ∧ IA h' bb n fun _ => -1) := ⟨_, fun _ _ => Iff.rfl⟩
  have hRe : (fun en h' => ∃ p bb S, en = .returned (.pointer (some ⟨p, 0, none⟩)) ∧ Le h S ∧ BS0 S p bb (toB n es t) es (nxA es es.length) ∧ Le S h' ∧ IA h' bb n fun _ => -1) = R := by funext en h'; exact propext (hR en h').symm
  rw [hRe]
  clear hRe
  have hn := t.n1
  have hm := t.m
  intro r hr
  have lS := Heap.le_new hr (Value.cells (.agg #[.int .i64 n, x])) 25
  have c0 : (h.new r (Value.cells (.agg #[.int .i64 n, x])) 25).cell r 0 = some (.int .i64 n) := by simp
  have c1 : (h.new r (Value.cells (.agg #[.int .i64 n, x])) 25).cell r 1 = some x := by simp
  have hx := hx.le lS
  generalize h.new r (Value.cells (.agg #[.int .i64 n, x])) 25 = S at *
  obtain ⟨A, cx, rfl, hcap, hA⟩ := hx.shape
  simp [c0, c1, ms_77 n (by omega) (by omega), ms_26 n (by omega) (by omega)]
  intro bo hbo
  have l4 := Heap.le_new hbo (zrow #[.slice none 0 0] n) 26
  have a4 := GA.fresh (α := Value) id 26 S bo n (.slice none 0 0)
  simp only [id] at a4
  generalize S.new bo (zrow #[.slice none 0 0] n) 26 = h4 at l4 a4
  intro bb hbb
  have fb := hbb.le l4
  have hob : bo ≠ bb := hbb.nei a4.info
  have l5 := l4.new hbb (zrow #[.int .i64 0] n) 3
  have a5 := a4.new hbb (zrow #[.int .i64 0] n) 3
  have b5 := GA.fresh (Value.int .i64) 3 h4 bb n 0
  generalize h4.new bb (zrow #[.int .i64 0] n) 3 = h5 at l5 a5 b5
  intro p hp
  have fp := hp.le l5
  have hop : bo ≠ p := hp.nei a5.info
  have hbp : bb ≠ p := hp.nei b5.info
  obtain ⟨P, hP⟩ : ∃ P : Array Value, P = #[.int .i64 n, .slice A es.length cx, .slice (some ⟨bo, 0, none⟩) n n, .slice (some ⟨bb, 0, none⟩) n n, .slice none 0 0, .slice none 0 0, .slice none 0 0, .slice none 0 0] := ⟨_, rfl⟩
  rw [← hP]
  have hPs : P.size = 8 := by rw [hP]; rfl
  obtain ⟨Q, hQ⟩ : ∃ Q : Heap, Q = ⟨fun b i => if b = p then (if i < 4 then P[i]? else none) else S.cell b i, fun b => if b = p then some (101, 8) else S.info b⟩ := ⟨_, rfl⟩
  have lSQ : Le S Q := by
    rw [hQ]
    refine ⟨fun b i v hv => ?_, fun b v hv => ?_⟩
    · have := fp.ne hv
      simp [this, hv]
    · have := fp.nei hv
      simp [this, hv]
  have l6 : Le Q (h5.new p P 101) := by
    rw [hQ]
    refine ⟨fun b i v hv => ?_, fun b v hv => ?_⟩
    · by_cases e : b = p
      · subst e
        rw [new_cell]
        simp only [if_true] at hv
        split at hv
        · exact hv
        · cases hv
      · rw [new_cell_ne _ e]; simp only [e, if_false] at hv; exact l5.cell _ _ _ hv
    · by_cases e : b = p
      · subst e; rw [new_info, hPs]; simpa using hv
      · rw [new_info_ne _ e]; simp only [e, if_false] at hv; exact l5.info _ _ hv
  have a6 := a5.new hp P 101
  have b6 := b5.new hp P 101
  have fo : Q.fresh bo := by rw [hQ]; exact ⟨by simp only [hop, if_false]; exact hbo.1, fun i => by simp only [hop, if_false]; exact hbo.2 i⟩
  have fb : Q.fresh bb := by rw [hQ]; exact ⟨by simp only [hbp, if_false]; exact fb.1, fun i => by simp only [hbp, if_false]; exact fb.2 i⟩
  have p0 : Q.cell p 0 = some (.int .i64 n) := by rw [hQ, hP]; simp
  have p1 : Q.cell p 1 = some (.slice A es.length cx) := by rw [hQ, hP]; simp
  have p2 : Q.cell p 2 = some (.slice (some ⟨bo, 0, none⟩) n n) := by rw [hQ, hP]; simp
  have p3 : Q.cell p 3 = some (.slice (some ⟨bb, 0, none⟩) n n) := by rw [hQ, hP]; simp
  have pi : Q.info p = some (101, 8) := by rw [hQ]; simp
  have pn : ∀ i, 4 ≤ i → Q.cell p i = none := fun i hi => by rw [hQ]; simp; omega
  have c1 := lSQ.cell _ _ _ c1
  have hx := hx.le lSQ
  have c16 := l6.cell _ _ _ c1
  clear hQ hP
  generalize h5.new p P 101 = h6 at l6 a6 b6 c16
  have lS := lS.trans lSQ
  clear l5 l4 hp hbb hbo a4 a5 b5 fp hA hPs
  simp [c16]
  obtain ⟨I, hI⟩ : ∃ I : Nat → List Value → Heap → Prop, ∀ m xs h1, I m xs h1 ↔ ∃ (j : Nat) (rx : Nat → Value) (rb : Nat → Option Nat), xs = [.int .i64 j] ∧ j ≤ es.length ∧ m = es.length - j ∧ Le Q h1 ∧ IA h1 bb n (fun _ => 0) ∧
      Rows Q h1 bo bb n rx (nxA es j) rb := ⟨_, fun _ _ _ => Iff.rfl⟩
  refine ⟨I, ⟨_, (hI _ _ _).2 ⟨0, _, fun _ => none, rfl, by omega, rfl, l6, b6, a6, fun v _ => GL.nil _ _ _ _, by simp, by simp, by simp⟩⟩, ?_⟩
  clear l6 a6 b6 c16 h6
  intro m X h6 hI1
  obtain ⟨j, rx, rb, hX, hj, rfl, l6, b6, rows⟩ := (hI _ _ _).1 hI1
  simp only [List.cons.injEq, and_true] at hX
  simp only [hX]
  simp
  refine ⟨fun hlt => ?_, fun hge => ?_⟩
  · have hA := (hx.shape)
    obtain ⟨A', cx', e', _, hA⟩ := hA
    cases e'
    have he := List.getElem?_eq_getElem hlt
    obtain ⟨b, o, rfl, e0, e1, e2, e3⟩ := hA j _ he
    generalize he' : es[j] = e at e0 e1 e2 e3 he
    obtain ⟨q1, q2, q3, q4⟩ := t.lt he
    have w1 : IntKind.i64.wrap ((j : Int) + 1) = ((j + 1 : Nat) : Int) := by rw [wrap_in (by omega) (by omega)]; rfl
    simp [hlt, l6.cell _ _ _ e0, l6.cell _ _ _ e1, l6.cell _ _ _ e2, l6.cell _ _ _ e3]
    intro r3 hr3
    have f3 := hr3.le l6
    have l7 := l6.new hr3 #[.int .i64 0, .int .i64 0, .int .i64 0, .int .i64 0] 40
    simp [setL_cons]
    obtain ⟨h7, hh7⟩ : ∃ h7, h7 = ((((h6.new r3 #[.int .i64 0, .int .i64 0, .int .i64 0, .int .i64 0] 40).set r3 0 (.int .i64 e.u)).set r3 1 (.int .i64 e.v)).set r3 2 (.int .i64 e.cap)).set r3 3 (.int .i64 e.cost) := ⟨_, rfl⟩
    have l8 : Le Q h7 := by rw [hh7]; exact (((l7.set_fresh f3 _ _).set_fresh f3 _ _).set_fresh f3 _ _).set_fresh f3 _ _
    have kp7 : Keep (fun b => b ≠ r3) h6 h7 := by rw [hh7]; exact ((((((Keep.refl _ h6).new hr3 _ _).set (fun h => h rfl) _ _).set (fun h => h rfl) _ _).set (fun h => h rfl) _ _).set (fun h => h rfl) _ _)
    have h3o : bo ≠ r3 := hr3.nei rows.arr.info
    have rows7 : Rows Q h7 bo bb n rx (nxA es j) rb :=
      ⟨rows.arr.keep kp7 h3o, fun v hv => (rows.gl v hv).keep kp7 fun b hb e => by
        have gv := rows.gl v hv
        rw [hb] at gv
        obtain ⟨c, hc⟩ := gv.known
        exact hr3.nei hc e, rows.no, rows.nb, rows.ne⟩
    have b7 := b6.keep kp7 (hr3.nei b6.info)
    have r30 : h7.cell r3 0 = some (.int .i64 e.u) := by rw [hh7]; simp
    have r31 : h7.cell r3 1 = some (.int .i64 e.v) := by rw [hh7]; simp
    rw [← hh7]
    clear hh7 l7
    have ul : ((uE e : Nat) : Int) < (n : Int) := by omega
    have vl : ((vE e : Nat) : Int) < (n : Int) := by omega
    have eu : atE uE es j = uE e := atE_of he
    have ev : atE vE es j = vE e := atE_of he
    rw [q3] at r30
    rw [q4] at r31
    simp [q3, q4]
    refine ⟨fun hne => ?_, fun heq => ?_⟩
    · simp [r30, r31, l8.cell _ _ _ p2, q1, ul, rows7.arr.cell _ q1]
      intro r4 hr4
      have l9 := l8.new hr4 #[.int .i64 j] 3
      have rows9 := rows7.keep ((Keep.refl (fun b => b ≠ bb) h7).new hr4 #[.int .i64 j] 3) hob
      have b9 := b7.new hr4 #[.int .i64 j] 3
      have r30 := (Heap.le_new hr4 #[.int .i64 j] 3).cell _ _ _ r30
      have r31 := (Heap.le_new hr4 #[.int .i64 j] 3).cell _ _ _ r31
      have r40 : (h7.new r4 #[.int .i64 j] 3).cell r4 0 = some (.int .i64 j) := by simp
      generalize h7.new r4 #[.int .i64 j] 3 = h9 at l9 rows9 b9 r30 r31 r40
      refine row_push fo hob l9 rows9 b9 q1 r40 (by have := nxA_len es j (uE e); omega) ?_
      rintro x' h10 rb1 ⟨A1, k1, c1, rfl⟩ le1 can1 l10 rows10 b10
      have r30 : (h10.set bo (uE e) (.slice A1 k1 c1)).cell r3 0 = some (.int .i64 (uE e)) := by rw [set_cell_nb _ _ _ _ h3o.symm]; exact le1.cell _ _ _ r30
      have r31 : (h10.set bo (uE e) (.slice A1 k1 c1)).cell r3 1 = some (.int .i64 (vE e)) := by rw [set_cell_nb _ _ _ _ h3o.symm]; exact le1.cell _ _ _ r31
      simp [ul, can1]
      intro _
      generalize h10.set bo (uE e) (.slice A1 k1 c1) = h11 at l10 rows10 b10 r30 r31
      have hne' : vE e ≠ uE e := by omega
      have row2 := rows10.arr.cell _ q2
      rw [upd_ne _ _ hne'] at row2
      simp only [id] at row2
      simp [l10.cell _ _ _ p2, r31, vl, row2]
      intro r5 hr5
      have l12 := l10.new hr5 #[.int .i64 j] 3
      have rows12 := rows10.keep ((Keep.refl (fun b => b ≠ bb) h11).new hr5 #[.int .i64 j] 3) hob
      have b12 := b10.new hr5 #[.int .i64 j] 3
      have r50 : (h11.new r5 #[.int .i64 j] 3).cell r5 0 = some (.int .i64 j) := by simp
      generalize h11.new r5 #[.int .i64 j] 3 = h12 at l12 rows12 b12 r50
      have hrl2 : upd (nxA es j) (uE e) (nxA es j (uE e) ++ [j]) (vE e) = nxA es j (vE e) := upd_ne _ _ hne'
      have hnx : nxA es (j + 1) = upd (upd (nxA es j) (uE e) (nxA es j (uE e) ++ [j])) (vE e) (nxA es j (vE e) ++ [j]) := by rw [nxA_edge (by rw [eu, ev]; omega), eu, ev]
      refine Eq.mp (congrArg (fun y => AP T 26 y _ _ _) (upd_ne rx _ hne')) (row_push fo hob l12 rows12 b12 q2 r50 (by rw [hrl2]; have := nxA_len es j (vE e); omega) ?_)
      rintro x' h13 rb2 ⟨A2, k2, c2, rfl⟩ - can2 l13 rows13 b13
      rw [hrl2, ← hnx] at rows13
      simp [vl, can2]
      intro _
      exact ⟨_, by omega, (hI _ _ _).2 ⟨j + 1, _, _, by rw [w1], by omega, rfl, l13, b13, rows13⟩⟩
    · have : nxA es (j + 1) = nxA es j := nxA_loop (by rw [eu, ev]; omega)
      exact ⟨_, by omega, (hI _ _ _).2 ⟨j + 1, _, _, by rw [w1], by omega, rfl, l8, b7, by rw [this]; exact rows7⟩⟩
  · have hj' : j = es.length := by omega
    subst hj'
    clear hI1 hI I hX X hge hj
    simp [l6.cell _ _ _ p3]
    obtain ⟨I, hI⟩ : ∃ I : Nat → List Value → Heap → Prop, ∀ m xs h1, I m xs h1 ↔ ∃ (v : Nat) (by_ : Nat → Int), xs = [.int .i64 v] ∧ v ≤ n ∧ m = n - v ∧ Le Q h1 ∧ IA h1 bb n by_ ∧ (∀ u, u < v → by_ u = -1) ∧
        Rows Q h1 bo bb n rx (nxA es es.length) rb := ⟨_, fun _ _ _ => Iff.rfl⟩
    refine ⟨I, ⟨_, (hI _ _ _).2 ⟨0, fun _ => 0, rfl, by omega, rfl, l6, b6, by simp, rows⟩⟩, ?_⟩
    clear l6 b6 rows h6
    intro m X h6 hI1
    obtain ⟨v, by_, hX, hv, rfl, l6, b6, hby, rows⟩ := (hI _ _ _).1 hI1
    simp only [List.cons.injEq, and_true] at hX
    simp only [hX]
    simp
    refine ⟨fun hlt => ?_, fun hge => ?_⟩
    · have hlt' : (v : Int) < (n : Int) := by omega
      have w1 : IntKind.i64.wrap ((v : Int) + 1) = ((v + 1 : Nat) : Int) := by rw [wrap_in (by omega) (by omega)]; rfl
      simp [l6.cell _ _ _ p3, hlt, hlt', b6.can hlt]
      refine ⟨_, ?_, (hI _ _ _).2 ⟨v + 1, _, by rw [w1], by omega, rfl, l6.set_fresh fb _ _, b6.set (-1), fun u hu => ?_, rows.keep ((Keep.refl _ h6).set (fun h => h rfl) _ _) hob⟩⟩
      · omega
      · by_cases e : u = v
        · rw [e, upd_same]
        · rw [upd_ne _ _ e]; exact hby u (by omega)
    · have hv' : v = n := by omega
      subst hv'
      have hbp' : p ≠ bb := hbp.symm
      obtain ⟨D, hD⟩ : ∃ D : Heap, D = ⟨fun b i => if b = bb then none else if b = p ∧ 4 ≤ i then none else h6.cell b i, fun b => if b = bb then none else h6.info b⟩ := ⟨_, rfl⟩
      have lD : Le D h6 := by
        rw [hD]
        refine ⟨fun b i v hv => ?_, fun b x hx => ?_⟩
        · simp only at hv
          split at hv
          · cases hv
          · split at hv
            · cases hv
            · exact hv
        · simp only at hx
          split at hx
          · cases hx
          · exact hx
      have lQ : Le Q D := by
        rw [hD]
        refine ⟨fun b i v hv => ?_, fun b x hx => ?_⟩
        · have h1 := fb.ne hv
          have h2 : ¬ (b = p ∧ 4 ≤ i) := by
            rintro ⟨rfl, h⟩
            rw [pn i h] at hv; cases hv
          simp only [h1, h2, if_false]
          exact l6.cell _ _ _ hv
        · have h1 := fb.nei hx
          simp only [h1, if_false]
          exact l6.info _ _ hx
      have kD : Keep (fun b => b ≠ bb ∧ b ≠ p) h6 D := by
        rw [hD]
        rintro b ⟨h1, h2⟩ _
        simp [h1, h2]
      have rowsD := rows.keepP kD ⟨hob, hop⟩ fun w b hw hb => ⟨fun e => rows.nb w hw (by rw [hb, e]), fun e => by
        have gw := rows.gl w hw
        rw [hb] at gw
        obtain ⟨f, _⟩ := gw
        exact f.nei pi e.symm⟩
      refine (hR _ _).2 ⟨p, bb, D, rfl, lS.trans lQ, ⟨lQ.cell _ _ _ p0, ⟨_, lQ.cell _ _ _ p1, hx.le lQ⟩, ⟨bo, _, lQ.cell _ _ _ p2, fun w hw => ⟨rx w, rowsD.arr.cell w hw, (rowsD.gl w hw).il⟩⟩, ⟨_, lQ.cell _ _ _ p3⟩, rfl, fun i e he => ?_, by show v ≤ 1024; omega, by exact hm, fun w hw i => ?_, fun w hw => ?_, ?_, ?_⟩, lD, b6.ext fun u hu => hby u hu⟩
      · obtain ⟨_, _, h3, h4⟩ := t.lt he
        exact ⟨by rw [h3]; show _ = ((atE uE es i : Nat) : Int); rw [atE_of he], by rw [h4]; show _ = ((atE vE es i : Nat) : Int); rw [atE_of he]⟩
      · exact nxA_mem
      · have := nxA_len es es.length w
        omega
      · rw [hD]; exact ⟨by simp, fun i => by simp⟩
      · rw [hD]
        refine ⟨by simp [hbp', l6.info _ _ pi], ?_, ?_, ?_, ?_⟩ <;> simp

end Go.Proofs.Ythchjolcjicpgaa

/- blossom: the contract of Solve. -/
namespace Go.Proofs.Ythchjolcjicpgaa
open Go.HW Blo

theorem _root_.Go.HW.HCalls.le {P : Program} {f : FuncId} {args : Array Value} {S h : Heap} {R : Ending → Heap → Prop} (c : HCalls P f args S R) (l : Le S h) : HCalls P f args h R :=
  fun W0 w s => c W0 w (s.le l)

theorem BS0.ext {S S' : Heap} {p bb : Nat} {g : Gr} {es : List RE} {nx : Nat → List Nat} (a : BS0 S p bb g es nx) (l : Le S S') (fb : S'.fresh bb) (no : NoS S' p) : BS0 S' p bb g es nx := by
  obtain ⟨x, hx, hE⟩ := a.c1
  obtain ⟨bo, c, h2, hr⟩ := a.c2
  obtain ⟨c3, h3⟩ := a.c3
  exact ⟨l.cell _ _ _ a.c0, ⟨x, l.cell _ _ _ hx, hE.le l⟩, ⟨bo, c, l.cell _ _ _ h2, fun v hv => let ⟨x, h4, h5⟩ := hr v hv; ⟨x, l.cell _ _ _ h4, h5.le l⟩⟩, ⟨c3, l.cell _ _ _ h3⟩, a.m, a.ends, a.n1, a.m1, a.nxm, a.nxl, fb, no⟩

theorem NoS.new {S : Heap} {p : Nat} (o : NoS S p) {r : Nat} (h : S.fresh r) (c : Array Value) (t : TypeId) : NoS (S.new r c t) p := by
  have hne : p ≠ r := h.nei o.ip
  exact ⟨by rw [new_info_ne _ hne]; exact o.ip, by rw [new_cell_ne _ hne]; exact o.c4, by rw [new_cell_ne _ hne]; exact o.c5, by rw [new_cell_ne _ hne]; exact o.c6, by rw [new_cell_ne _ hne]; exact o.c7⟩

/-- What one search left in the struct is forgotten. -/
def dropP (h : Heap) (p : Nat) : Heap := ⟨fun b i => if b = p ∧ (i = 4 ∨ i = 5 ∨ i = 6 ∨ i = 7) then none else h.cell b i, h.info⟩
theorem dropP_le (h : Heap) (p : Nat) : Le (dropP h p) h := by
  refine ⟨fun b i v hv => ?_, fun b x hx => hx⟩
  simp only [dropP] at hv
  split at hv
  · cases hv
  · exact hv
theorem le_dropP {S h : Heap} {p : Nat} (l : Le S h) (o : NoS S p) : Le S (dropP h p) := by
  refine ⟨fun b i v hv => ?_, fun b x hx => l.info _ _ hx⟩
  simp only [dropP]
  rw [if_neg]
  · exact l.cell _ _ _ hv
  · rintro ⟨rfl, h⟩
    rcases h with rfl | rfl | rfl | rfl
    · rw [o.c4] at hv; cases hv
    · rw [o.c5] at hv; cases hv
    · rw [o.c6] at hv; cases hv
    · rw [o.c7] at hv; cases hv
theorem keep_dropP (h : Heap) (p : Nat) : Keep (fun b => b ≠ p) h (dropP h p) := fun b hne _ => by simp [dropP, hne]
theorem no_dropP {h : Heap} {p : Nat} (i : h.info p = some (101, 8)) : NoS (dropP h p) p := ⟨i, by simp [dropP], by simp [dropP], by simp [dropP], by simp [dropP]⟩

/-- Edges that match, by the lower of their nodes. -/
def takenB (g : Gr) (by_ : Nat → Option Nat) : Nat → List Nat
  | 0 => []
  | v + 1 => takenB g by_ v ++ (match by_ v with | some i => if v < mate g by_ v then [i] else [] | none => [])

theorem takenB_len (g : Gr) (by_ : Nat → Option Nat) : ∀ v, (takenB g by_ v).length ≤ v
  | 0 => by simp [takenB]
  | v + 1 => by
    have := takenB_len g by_ v
    simp only [takenB, List.length_append]
    split
    · split <;> simp <;> omega
    · simp; omega

/-- What Solve answers of a graph. -/
def SolvedB (g : Gr) (ml cl : List Nat) : Prop :=
  ∃ (by_ : Nat → Option Nat) (re : Nat → Bool), Mat g by_ ∧ (∀ r, r < g.n → by_ r = none → ∃ ev, Fails g by_ r ev) ∧ (∀ u, u < g.n → (re u = true ↔ ∃ r ev, r < g.n ∧ by_ r = none ∧ Fails g by_ r ev ∧ ev u = true)) ∧
    ml.Perm (takenB g by_ g.n) ∧ ml.Pairwise (· ≤ ·) ∧ cl.Pairwise (· < ·) ∧ ∀ v, v ∈ cl ↔ v < g.n ∧ re v = false ∧ ∃ i w, g.E i v w ∧ re w = true

def SolB (h : Heap) (n : Int) (es : List RE) (en : Ending) (h' : Heap) : Prop :=
  (∃ c a : Int, c ≠ 0 ∧ ChkR n es c a ∧ en = .returned (.tuple #[.slice none 0 0, .slice none 0 0, .int .i64 c])) ∨
  (∃ (n' : Nat) (t : Fine n' es) (xm xc : Value) (ml cl : List Nat) (bm bc : Option Nat), n = n' ∧ en = .returned (.tuple #[xm, xc, .int .i64 0]) ∧ GL 3 h h' False xm ml bm ∧ GL 3 h h' False xc cl bc ∧ (∀ b, bm = some b → bc ≠ some b) ∧ SolvedB (toB n' es t) ml cl)

section
variable {h : Heap} {p bb : Nat} {g : Gr} {es : List RE} {by_ : Nat → Option Nat} {nx : Nat → List Nat}

theorem near_c (a : BS h p bb g es by_ nx) {r2 r3 r4 bR c v i : Nat} {re : Nat → Bool} (e2 : h.cell r2 0 = some (.pointer (some ⟨p, 0, none⟩))) (e3 : h.cell r3 0 = some (.slice (some ⟨bR, 0, none⟩) g.n c)) (e4 : h.cell r4 0 = some (.int .i64 v)) (hR : BA h bR g.n re)
    {w : Nat} (e : g.E i v w) : HCalls Try.prog 58 #[.int .i64 i, .pointer (some ⟨r3, 0, none⟩), .pointer (some ⟨r2, 0, none⟩), .pointer (some ⟨r4, 0, none⟩)] h fun en h' => h' = h ∧ en = .returned (.bool (re w)) := by
  apply H58
  unfold F58
  have hw := e.lty
  have hw' : (w : Int) < (g.n : Int) := by omega
  simp [e2, e3, e4]
  refine CALL_mk en59 (other_e a e) ?_
  rintro en h' ⟨rfl, rfl⟩
  simp [hw', hR.cell _ hw, Le.refl]

theorem index_c (a : BS h p bb g es by_ nx) {r2 r3 r4 bR c v : Nat} {re : Nat → Bool} (e2 : h.cell r2 0 = some (.pointer (some ⟨p, 0, none⟩))) (e3 : h.cell r3 0 = some (.slice (some ⟨bR, 0, none⟩) g.n c)) (e4 : h.cell r4 0 = some (.int .i64 v)) (hR : BA h bR g.n re)
    {x : Value} {l : List Nat} (hl : IL h x l) (hll : l.length ≤ 4096) (hE : ∀ i, i ∈ l → g.E i v (g.ot i v)) :
    HCalls Try.prog 92 #[x, .func (.func 58) #[] #[.pointer (some ⟨r3, 0, none⟩), .pointer (some ⟨r2, 0, none⟩), .pointer (some ⟨r4, 0, none⟩)]] h fun en h' => h' = h ∧ ((en = .returned (.int .i64 (-1)) ∧ ∀ i, i ∈ l → re (g.ot i v) = false) ∨ ∃ k : Nat, en = .returned (.int .i64 k) ∧ ∃ i, i ∈ l ∧ re (g.ot i v) = true) := by
  apply H92
  unfold F92
  obtain ⟨A, cx, rfl, hx⟩ := hl
  simp
  obtain ⟨I, hI⟩ : ∃ I : Nat → List Value → Heap → Prop, ∀ m xs h1, I m xs h1 ↔ ∃ j : Nat, xs = [.int .i64 j] ∧ j ≤ l.length ∧ m = l.length - j ∧ h1 = h ∧ ∀ (k i : Nat), k < j → l[k]? = some i → re (g.ot i v) = false := ⟨_, fun _ _ _ => Iff.rfl⟩
  refine ⟨I, ⟨_, (hI _ _ _).2 ⟨0, rfl, by omega, rfl, rfl, fun k i hk => by omega⟩⟩, ?_⟩
  intro m X h1 hI1
  obtain ⟨j, hX, hj, rfl, rfl, hf⟩ := (hI _ _ _).1 hI1
  simp only [List.cons.injEq, and_true] at hX
  simp only [hX]
  have w1 : IntKind.i64.wrap ((j : Int) + 1) = ((j + 1 : Nat) : Int) := by rw [wrap_in (by omega) (by omega)]; rfl
  simp
  refine ⟨fun hlt => ?_, fun hge => ?_⟩
  · have hj' : (j : Int) < (l.length : Int) := by omega
    obtain ⟨b, o, rfl, hcell⟩ := hx j _ (List.getElem?_eq_getElem hlt)
    generalize hi : l[j] = i at hcell
    have hi' : l[j]? = some i := by rw [List.getElem?_eq_getElem hlt, hi]
    have him : i ∈ l := by rw [← hi]; exact List.getElem_mem hlt
    simp [hlt, hj', hcell, CL]
    refine CALL_mk en58 (near_c a e2 e3 e4 hR (hE i him)) ?_
    rintro en h2 ⟨rfl, rfl⟩
    simp only [endR_ret]
    rw [ifV_bool]
    refine ⟨fun ht => ⟨trivial, ⟨j, rfl⟩, i, him, ht⟩, fun ht => ?_⟩
    refine ⟨_, by omega, (hI _ _ _).2 ⟨j + 1, by rw [w1], by omega, rfl, rfl, fun k i' hk hk' => ?_⟩⟩
    by_cases e : k = j
    · subst e; rw [hi'] at hk'; cases hk'; exact ht
    · exact hf k i' (by omega) hk'
  · intro i hi
    obtain ⟨k, hk⟩ := List.getElem?_of_mem hi
    exact hf k i (by have := (List.getElem?_eq_some_iff.1 hk).1; omega) hk

theorem contains_c (a : BS h p bb g es by_ nx) {r2 r3 r4 bR c v : Nat} {re : Nat → Bool} (e2 : h.cell r2 0 = some (.pointer (some ⟨p, 0, none⟩))) (e3 : h.cell r3 0 = some (.slice (some ⟨bR, 0, none⟩) g.n c)) (e4 : h.cell r4 0 = some (.int .i64 v)) (hR : BA h bR g.n re)
    {x : Value} {l : List Nat} (hl : IL h x l) (hll : l.length ≤ 4096) (hE : ∀ i, i ∈ l → g.E i v (g.ot i v)) :
    HCalls Try.prog 60 #[x, .func (.func 58) #[] #[.pointer (some ⟨r3, 0, none⟩), .pointer (some ⟨r2, 0, none⟩), .pointer (some ⟨r4, 0, none⟩)]] h fun en h' => h' = h ∧ ∃ t : Bool, en = .returned (.bool t) ∧ (t = true ↔ ∃ i, i ∈ l ∧ re (g.ot i v) = true) := by
  apply H60
  unfold F60
  refine CALL_mk en92 (index_c a e2 e3 e4 hR hl hll hE) ?_
  rintro en h' ⟨rfl, ⟨rfl, hn⟩ | ⟨k, rfl, hk⟩⟩
  · simp
    intro i hi
    rw [hn i hi]
  · simp
    exact hk

end

end Go.Proofs.Ythchjolcjicpgaa

/- blossom: the contract of Solve, proved. -/
namespace Go.Proofs.Ythchjolcjicpgaa
open Go.HW Blo

theorem le_var {S h : Heap} (l : Le S h) {r : Nat} (hr : h.fresh r) (v0 v : Value) (t : TypeId) : Le (S.new r #[v] t) ((h.new r #[v0] t).set r 0 v) := by
  refine ⟨fun b i x hx => ?_, fun b x hx => ?_⟩
  · by_cases e : b = r
    · subst e
      rw [new_cell] at hx
      cases i with
      | zero => simp at hx; subst hx; simp
      | succ i => simp at hx
    · rw [new_cell_ne _ e] at hx
      rw [set_cell_nb _ _ _ _ e, new_cell_ne _ e]
      exact l.cell _ _ _ hx
  · by_cases e : b = r
    · subst e
      rw [new_info] at hx
      simpa using hx
    · rw [new_info_ne _ e] at hx
      rw [set_info, new_info_ne _ e]
      exact l.info _ _ hx

theorem solveB_c {h : Heap} {n : Int} {x : Value} {es : List RE} (hx : ES h x es) :
    HCalls Try.prog 23 #[.agg #[.int .i64 n, x]] h fun en h' => Le h h' ∧ SolB h n es en h' := by
  apply H23
  obtain ⟨R, hR⟩ : ∃ R : Ending → Heap → Prop, ∀ en h', R en h' ↔ Le h h' ∧ SolB h n es en h' := ⟨_, fun _ _ => Iff.rfl⟩
  have hRe : (fun en h' => Le h h' ∧ SolB h n es en h') = R := by funext en h'; exact propext (hR en h').symm
  rw [hRe]
  clear hRe
  unfold F23
  intro r hr
  obtain ⟨S0, hS0⟩ : ∃ S, S = h.new r (Value.cells (.agg #[.int .i64 n, x])) 25 := ⟨_, rfl⟩
  rw [← hS0]
  have lS : Le h S0 := by rw [hS0]; exact Heap.le_new hr _ _
  have c0 : S0.cell r 0 = some (.int .i64 n) := by rw [hS0]; simp
  have c1 : S0.cell r 1 = some x := by rw [hS0]; simp
  have hx := hx.le lS
  clear hS0
  simp [c0, c1]
  refine CALL_mk en44 (check_c hx) ?_
  rintro en h1 ⟨c, a, rfl, l1, hs⟩
  simp
  intro r1 hr1
  have f1 := hr1.le l1
  have l2 := l1.new hr1 #[.int .i64 0, .int .i64 0] 31
  simp [setL_cons]
  obtain ⟨h2, hh2⟩ : ∃ h2, h2 = ((h1.new r1 #[.int .i64 0, .int .i64 0] 31).set r1 0 (.int .i64 c)).set r1 1 (.int .i64 a) := ⟨_, rfl⟩
  have l3 : Le S0 h2 := by rw [hh2]; exact (l2.set_fresh f1 _ _).set_fresh f1 _ _
  rw [← hh2]
  clear hh2 l2
  refine ⟨fun hne => (hR _ _).2 ⟨lS.trans l3, .inl ⟨c, a, hne, hs, rfl⟩⟩, fun he => ?_⟩
  have t := hs.fine.1 he
  have t0 := t.n0
  have t1 := t.n1
  obtain ⟨n, rfl⟩ : ∃ n' : Nat, n = n' := ⟨n.toNat, by omega⟩
  clear he hs hr1 f1
  simp [l3.cell _ _ _ c0, l3.cell _ _ _ c1]
  refine CALL_mk en54 (new_c (hx.le l3) t) ?_
  rintro en h3 ⟨p, bb, S, rfl, lS2, a, rfl⟩
  have hRk : ∀ h' xm xc ml cl bm bc, Le S0 h' → GL 3 S0 h' False xm ml bm → GL 3 S0 h' False xc cl bc → (∀ b, bm = some b → bc ≠ some b) → SolvedB (toB n es t) ml cl → R (.returned (.tuple #[xm, xc, .int .i64 0])) h' :=
    fun h' xm xc ml cl bm bc q1 q2 q3 q4 q5 => (hR _ _).2 ⟨lS.trans q1, .inr ⟨n, t, xm, xc, ml, cl, bm, bc, rfl, rfl, q2.base lS, q3.base lS, q4, q5⟩⟩
  clear hR
  have gn : (toB n es t).n = n := rfl
  generalize toB n es t = g at a gn hRk
  subst gn
  simp
  intro r2 hr2
  have hpr : p ≠ r2 := hr2.nei (putBy_no a _).ip
  have hbr : bb ≠ r2 := hr2.nei (putBy_ia S bb g.n fun _ => none).info
  have fr2 := hr2.le (putBy_le a _)
  obtain ⟨Q, hQ⟩ : ∃ Q, Q = S.new r2 #[.pointer (some ⟨p, 0, none⟩)] 98 := ⟨_, rfl⟩
  have lSQ : Le S Q := by rw [hQ]; exact Heap.le_new fr2 _ _
  have aQ : BS0 Q p bb g es (nxA es es.length) := by
    rw [hQ]
    exact a.ext (Heap.le_new fr2 _ _) ⟨by rw [new_info_ne _ hbr]; exact a.fb.1, fun i => by rw [new_cell_ne _ hbr]; exact a.fb.2 i⟩ (a.no.new fr2 _ _)
  have l0Q : Le S0 Q := l3.trans (lS2.trans lSQ)
  have r20 : Q.cell r2 0 = some (.pointer (some ⟨p, 0, none⟩)) := by rw [hQ]; simp
  obtain ⟨h4, hh4⟩ : ∃ h4, h4 = ((putBy S bb g.n fun _ => none).new r2 #[.pointer none] 98).set r2 0 (.pointer (some ⟨p, 0, none⟩)) := ⟨_, rfl⟩
  rw [← hh4]
  have l4 : Le Q h4 := by
    rw [hQ, hh4]
    refine ⟨fun b i v hv => ?_, fun b x hx => ?_⟩
    · by_cases e : b = r2
      · subst e
        rw [new_cell] at hv
        cases i with
        | zero => simp at hv; subst hv; simp
        | succ i => simp at hv
      · rw [new_cell_ne _ e] at hv
        rw [set_cell_nb _ _ _ _ e, new_cell_ne _ e]
        exact (putBy_le a _).cell _ _ _ hv
    · by_cases e : b = r2
      · subst e
        rw [new_info] at hx
        simpa using hx
      · rw [new_info_ne _ e] at hx
        rw [set_info, new_info_ne _ e]
        exact (putBy_le a _).info _ _ hx
  have b4 : IA h4 bb g.n fun v => oI ((fun _ => none) v) := by rw [hh4]; exact ((putBy_ia S bb g.n fun _ => none).new hr2 _ _).other hbr _
  have no4 : NoS h4 p := by
    have o := (putBy_no a (fun _ => none)).new hr2 #[.pointer none] 98
    rw [hh4]
    exact ⟨by rw [set_info]; exact o.ip, by rw [set_cell_nb _ _ _ _ hpr]; exact o.c4, by rw [set_cell_nb _ _ _ _ hpr]; exact o.c5, by rw [set_cell_nb _ _ _ _ hpr]; exact o.c6, by rw [set_cell_nb _ _ _ _ hpr]; exact o.c7⟩
  have c04 := l4.cell _ _ _ (l0Q.cell _ _ _ c0)
  clear hh4 hr2 hQ fr2 a lS2 lSQ l3 l1 h1 h2 hx
  simp [c04]
  obtain ⟨c3, e3⟩ := aQ.c3
  have hn1 := aQ.n1
  obtain ⟨I, hI⟩ : ∃ I : Nat → List Value → Heap → Prop, ∀ m xs h5, I m xs h5 ↔ ∃ (k : Nat) (by_ : Nat → Option Nat), xs = [.int .i64 k] ∧ k ≤ g.n ∧ m = g.n - k ∧ Le Q h5 ∧ (IA h5 bb g.n fun v => oI (by_ v)) ∧ NoS h5 p ∧ Mat g by_ ∧ ∀ v, v < k → by_ v = none → Hangs g by_ v := ⟨_, fun _ _ _ => Iff.rfl⟩
  refine ⟨I, ⟨_, (hI _ _ _).2 ⟨0, _, rfl, Nat.zero_le _, rfl, l4, b4, no4, ⟨fun x i _ h => by cases h⟩, fun v hv => by omega⟩⟩, ?_⟩
  clear l4 b4 no4 c04 h4
  intro m X h5 hI1
  obtain ⟨k, by_, hX, hk, rfl, l5, b5, no5, M, hh⟩ := (hI _ _ _).1 hI1
  simp only [List.cons.injEq, and_true] at hX
  simp only [hX]
  have w1 : IntKind.i64.wrap ((k : Int) + 1) = ((k + 1 : Nat) : Int) := by rw [wrap_in (by omega) (by omega)]; rfl
  simp
  refine ⟨fun hlt => ?_, fun hge => ?_⟩
  · have hk' : (k : Int) < (g.n : Int) := by omega
    have a5 := aQ.bs l5 b5
    have nxt : ∀ h7 by2, Le Q h7 → (IA h7 bb g.n fun v => oI (by2 v)) → NoS h7 p → Mat g by2 → (∀ v, v < k + 1 → by2 v = none → Hangs g by2 v) → ∃ m', m' < g.n - k ∧ I m' [.int .i64 (IntKind.i64.wrap ((k : Int) + 1))] h7 :=
      fun h7 by2 q1 q2 q3 q4 q5 => ⟨_, by omega, (hI _ _ _).2 ⟨k + 1, by2, by rw [w1], hlt, rfl, q1, q2, q3, q4, q5⟩⟩
    simp [l5.cell _ _ _ r20, l5.cell _ _ _ e3, hk', b5.cell k hlt]
    refine ⟨fun hneg => ?_, fun hpos => ?_⟩
    · have hfree := oI_neg.1 hneg
      refine CALL_mk en56 (grow_c a5 no5 M hlt hfree) ?_
      rintro en h6 ⟨bs, bv, be, base, via, ev, P, fs, fv, fe, l6, s, ⟨w, i, v, c, rfl, e, hev, hw, hvia, hb, c5, via6⟩ | ⟨c, rfl, H, _, _⟩⟩
      · have b6 := b5.le l6
        have hvb : bv ≠ bb := (fv.nei b5.info).symm
        obtain ⟨m1, m2, m3, m4⟩ := s.augment e hev hw hb
        simp only [endR_ret]
        refine ⟨l6, fun _ => CALL_mk en55 (turn_c aQ (l5.trans l6) b6 s e hev hw hb c5 via6 hvb (upd_same _ _ _) (s.via1 e.ltx hev hb)) ?_⟩
        rintro en h7 ⟨rfl, rfl⟩
        simp only [endR_ret]
        refine fun _ => nxt _ _ (putBy_le aQ _) (putBy_ia _ _ _ _) (putBy_no aQ _) m1 fun u hu hn => ?_
        by_cases eu : u = k
        · subst eu; exact absurd hn m2
        · exact m4 u (Ne.symm eu) (hh u (by omega) (m3 u hn))
      · simp only [endR_ret]
        refine ⟨l6, fun _ => CALL_mk en55 (turn_no (l5.trans l6) (b5.le l6)) ?_⟩
        rintro en h7 ⟨rfl, rfl⟩
        simp only [endR_ret]
        refine fun _ => nxt _ _ (putBy_le aQ _) (putBy_ia _ _ _ _) (putBy_no aQ _) M fun u hu hn => ?_
        by_cases eu : u = k
        · subst eu; exact s.hangs H
        · exact hh u (by omega) hn
    · refine nxt h5 by_ l5 b5 no5 M fun u hu hn => hh u ?_ hn
      have : u ≠ k := fun e => by rw [← e, hn] at hpos; simp at hpos
      omega
  · obtain rfl : k = g.n := by omega
    clear hI1 hI I hX X hge hk w1
    simp [l5.cell _ _ _ (l0Q.cell _ _ _ c0), ms_74 g.n (by omega) (by omega)]
    intro bR hbR
    have fR := hbR.le l5
    have hbbR : bb ≠ bR := hbR.nei b5.info
    have l6 := l5.new hbR (zrow #[.bool false] g.n) 4
    have b6 := b5.new hbR (zrow #[.bool false] g.n) 4
    have R6 := GA.fresh Value.bool 4 h5 bR g.n false
    have hpR : p ≠ bR := hbR.nei no5.ip
    generalize h5.new bR (zrow #[.bool false] g.n) 4 = h6 at l6 b6 R6
    clear l5 b5 no5 hbR
    intro r3 hr3
    have f3 := hr3.le l6
    have hb3 : bb ≠ r3 := hr3.nei b6.info
    have hR3 : bR ≠ r3 := hr3.nei R6.info
    obtain ⟨W, hW⟩ : ∃ W, W = Q.new r3 #[.slice (some ⟨bR, 0, none⟩) g.n g.n] 74 := ⟨_, rfl⟩
    have lQW : Le Q W := by rw [hW]; exact Heap.le_new f3 _ _
    have aW : BS0 W p bb g es (nxA es es.length) := by
      rw [hW]
      exact aQ.ext (Heap.le_new f3 _ _) ⟨by rw [new_info_ne _ hb3]; exact aQ.fb.1, fun i => by rw [new_cell_ne _ hb3]; exact aQ.fb.2 i⟩ (aQ.no.new f3 _ _)
    have fRW : W.fresh bR := by rw [hW]; exact ⟨by rw [new_info_ne _ hR3]; exact fR.1, fun i => by rw [new_cell_ne _ hR3]; exact fR.2 i⟩
    have r30 : W.cell r3 0 = some (.slice (some ⟨bR, 0, none⟩) g.n g.n) := by rw [hW]; simp
    have l7 := le_var l6 hr3 (.slice none 0 0) (.slice (some ⟨bR, 0, none⟩) g.n g.n) 74
    rw [← hW] at l7
    have b7 := (b6.new hr3 #[.slice none 0 0] 74).other hb3 (i := 0) (.slice (some ⟨bR, 0, none⟩) g.n g.n)
    have R7 := (R6.new hr3 #[.slice none 0 0] 74).other hR3 (i := 0) (.slice (some ⟨bR, 0, none⟩) g.n g.n)
    have l0W := l0Q.trans lQW
    have e3 := lQW.cell _ _ _ e3
    have r20 := lQW.cell _ _ _ r20
    generalize ((h6.new r3 #[.slice none 0 0] 74).set r3 0 (.slice (some ⟨bR, 0, none⟩) g.n g.n)) = h7 at l7 b7 R7
    simp [l7.cell _ _ _ (l0W.cell _ _ _ c0)]
    clear hr3 l6 b6 R6 f3 hW fR lQW aQ l0Q
    obtain ⟨I, hI⟩ : ∃ I : Nat → List Value → Heap → Prop, ∀ m xs h8, I m xs h8 ↔ ∃ (k : Nat) (re : Nat → Bool) (x : Value) (bk : Option Nat), xs = [.int .i64 k, x] ∧ k ≤ g.n ∧ m = g.n - k ∧ Le W h8 ∧ (IA h8 bb g.n fun v => oI (by_ v)) ∧ BA h8 bR g.n re ∧
        GL 3 W h8 False x (takenB g by_ k) bk ∧ bk ≠ some bb ∧ bk ≠ some bR ∧ (∀ r, r < k → by_ r = none → ∃ ev, Fails g by_ r ev) ∧ ∀ u, u < g.n → (re u = true ↔ ∃ r ev, r < k ∧ by_ r = none ∧ Fails g by_ r ev ∧ ev u = true) := ⟨_, fun _ _ _ => Iff.rfl⟩
    refine ⟨I, ⟨_, (hI _ _ _).2 ⟨0, _, _, none, rfl, Nat.zero_le _, rfl, l7, b7, R7, GL.nil _ _ _ _, by simp, by simp, fun r hr => by omega, fun u hu => by simp⟩⟩, ?_⟩
    clear l7 b7 R7 h7
    intro m X h8 hI1
    obtain ⟨k, re, x, bk, hX, hk, rfl, l8, b8, R8, g8, k1, k2, hF, hre⟩ := (hI _ _ _).1 hI1
    simp only [List.cons.injEq, and_true] at hX
    obtain ⟨hX1, hX2⟩ := hX
    simp only [hX1, hX2]
    have w1 : IntKind.i64.wrap ((k : Int) + 1) = ((k + 1 : Nat) : Int) := by rw [wrap_in (by omega) (by omega)]; rfl
    simp
    refine ⟨fun hlt => ?_, fun hge => ?_⟩
    · have hk' : (k : Int) < (g.n : Int) := by omega
      refine JN.mk fun J hJ => ?_
      have hJ' : ∀ (h9 : Heap) (re' : Nat → Bool), Le W h9 → (IA h9 bb g.n fun v => oI (by_ v)) → BA h9 bR g.n re' → GL 3 W h9 False x (takenB g by_ k) bk → (∀ r, r < k + 1 → by_ r = none → ∃ ev, Fails g by_ r ev) → (∀ u, u < g.n → (re' u = true ↔ ∃ r ev, r < k + 1 ∧ by_ r = none ∧ Fails g by_ r ev ∧ ev u = true)) → J h9 := by
        intro h9 re' l9 b9 R9 g9 hF' hre'
        rw [hJ]
        clear hJ J
        refine JN.mk fun J1 hJ1 => ?_
        have hf : takenB g by_ (k + 1) = takenB g by_ k → J1 (.bool false) h9 := fun ht => by
          rw [hJ1]
          simp
          exact ⟨_, by omega, (hI _ _ _).2 ⟨k + 1, re', x, bk, by rw [w1], hlt, rfl, l9, b9, R9, by rw [ht]; exact g9, k1, k2, hF', hre'⟩⟩
        have htr : ∀ i, by_ k = some i → k < mate g by_ k → J1 (.bool true) h9 := fun i hi hlt2 => by
          rw [hJ1]
          simp [l9.cell _ _ _ r20, l9.cell _ _ _ e3, hk', b9.cell k hlt, hi]
          intro z hz
          have g10 := g9.keep ((Keep.refl (fun _ => True) h9).new hz #[.int .i64 i] 3) (fun _ _ => trivial)
          have htl := takenB_len g by_ k
          refine AP_push (i := i) el_26 g10 (l9.new hz _ _) (by omega) (by simp) ?_
          intro x' h11 bk' g11 l11 _ hbk' kp
          have kb := ne_push hz k1 b9.info hbk'
          have kR := ne_push hz k2 R9.info hbk'
          exact ⟨_, by omega, (hI _ _ _).2 ⟨k + 1, re', x', bk', by rw [w1], hlt, rfl, l11, (b9.new hz _ _).keep kp kb, (R9.new hz _ _).keep kp kR, by rw [takenB, hi]; simp only [if_pos hlt2]; exact g11, kb, kR, hF', hre'⟩⟩
        clear hJ1
        simp [l9.cell _ _ _ r20, l9.cell _ _ _ e3, hk', b9.cell k hlt]
        refine ⟨fun hpos => ?_, fun hneg => ?_⟩
        · obtain ⟨i, hi⟩ : ∃ i, by_ k = some i := Option.ne_none_iff_exists'.1 fun h => by rw [h] at hpos; simp at hpos
          refine CALL_mk en57 (mate_e (aW.bs l9 b9) hi (M.edge hlt hi)) ?_
          rintro en h10 ⟨rfl, rfl⟩
          simp
          by_cases c : k < mate g by_ k
          · simp [c]; exact htr i hi c
          · simp [c]; exact hf (by simp [takenB, hi, c])
        · have : by_ k = none := oI_neg.1 (by omega)
          exact hf (by simp [takenB, this])
      clear hJ
      simp [l8.cell _ _ _ r20, l8.cell _ _ _ e3, hk', b8.cell k hlt]
      refine ⟨fun hneg => ?_, fun hpos => ?_⟩
      · have hfree := oI_neg.1 hneg
        have lD := le_dropP l8 aW.no
        have kD := keep_dropP h8 p
        have bD := b8.keep kD aW.hpb.symm
        have RD := R8.keep kD hpR.symm
        have gD := g8.keep kD fun b hb e => by
          rw [hb] at g8
          obtain ⟨f, _⟩ := g8
          exact f.nei aW.no.ip e.symm
        refine CALL_mk en56 ((grow_c (aW.bs lD bD) (no_dropP (l8.info _ _ aW.no.ip)) M hlt hfree).le (dropP_le h8 p)) ?_
        rintro en h9 ⟨bs, bv, be, base, via, ev, P, fs, fv, fe, l9', s, ⟨w, i, v, c, rfl, e, hev, hw, hvia, hb, c5, via6⟩ | ⟨c, rfl, H, c6, he⟩⟩
        · exact ((hh k hlt hfree).nofind s e hev hw hb).elim
        · have fails : Fails g by_ k ev := ⟨base, via, P, s, H⟩
          have l9 := lD.trans l9'
          have b9 := bD.le l9'
          have R9 := RD.le l9'
          have g9 := gD.le l9'
          have hRe : bR ≠ be := fe.nei RD.info
          clear lD kD bD RD gD fs fv fe l9' s H
          simp [l9.cell _ _ _ r20, c6]
          obtain ⟨I2, hI2⟩ : ∃ I2 : Nat → List Value → Heap → Prop, ∀ m xs h10, I2 m xs h10 ↔ ∃ j : Nat, xs = [.int .i64 j] ∧ j ≤ g.n ∧ m = g.n - j ∧ Le W h10 ∧ (IA h10 bb g.n fun v => oI (by_ v)) ∧ (BA h10 bR g.n fun u => re u || (decide (u < j) && ev u)) ∧ BA h10 be g.n ev ∧ GL 3 W h10 False x (takenB g by_ k) bk := ⟨_, fun _ _ _ => Iff.rfl⟩
          refine ⟨I2, ⟨_, (hI2 _ _ _).2 ⟨0, rfl, Nat.zero_le _, rfl, l9, b9, R9.ext fun u _ => by simp, he, g9⟩⟩, ?_⟩
          clear l9 b9 R9 g9 he c6
          intro m2 X2 h10 hI3
          obtain ⟨j, hX2, hj, rfl, l10, b10, R10, e10, g10⟩ := (hI2 _ _ _).1 hI3
          simp only [List.cons.injEq, and_true] at hX2
          simp only [hX2]
          have w2 : IntKind.i64.wrap ((j : Int) + 1) = ((j + 1 : Nat) : Int) := by rw [wrap_in (by omega) (by omega)]; rfl
          simp
          refine ⟨fun hlt2 => ?_, fun hge2 => ?_⟩
          · have hj' : (j : Int) < (g.n : Int) := by omega
            have hRj := R10.cell j hlt2
            simp at hRj
            have nxt : ∃ m', m' < g.n - j ∧ I2 m' [.int .i64 (IntKind.i64.wrap ((j : Int) + 1))] (h10.set bR j (.bool (re j || ev j))) := by
              refine ⟨_, by omega, (hI2 _ _ _).2 ⟨j + 1, by rw [w2], hlt2, rfl, l10.set_fresh fRW _ _, b10.other hbbR _, (R10.set (i := j) (re j || ev j)).ext fun u _ => ?_, e10.other hRe.symm _, g10.keep ((Keep.refl (fun b => b ≠ bR) h10).set (fun h => h rfl) _ _) fun b hb e => k2 (by rw [hb, e])⟩⟩
              simp only [upd]
              by_cases h : u = j
              · subst h; simp
              · rw [if_neg h]
                by_cases h2 : u < j
                · simp [h2, Nat.lt_succ_of_lt h2]
                · simp [h2, show ¬ u < j + 1 by omega]
            simp [hj', hlt2, e10.cell j hlt2, l10.cell _ _ _ r30, hRj, R10.can hlt2]
            rw [ifV_bool]
            refine ⟨fun ht _ => ?_, fun ht _ => ?_⟩
            · simp only [ht, Bool.true_or] at nxt; exact nxt
            · simp only [ht, Bool.false_or] at nxt; exact nxt
          · obtain rfl : j = g.n := by omega
            refine hJ' h10 _ l10 b10 R10 g10 (fun r hr hb => ?_) fun u hu => ?_
            · by_cases e : r = k
              · subst e; exact ⟨ev, fails⟩
              · exact hF r (by omega) hb
            · simp [hu]
              rw [hre u hu]
              constructor
              · rintro (⟨r, ev', h1, h2, h3, h4⟩ | h)
                · exact ⟨r, by omega, h2, ev', h3, h4⟩
                · exact ⟨k, by omega, hfree, ev, fails, h⟩
              · rintro ⟨r, h1, h2, ev', h3, h4⟩
                by_cases e : r = k
                · subst e; exact .inr (fails.same h3 hu h4)
                · exact .inl ⟨r, ev', by omega, h2, h3, h4⟩
      · have hbk : by_ k ≠ none := fun h => by rw [h] at hpos; simp at hpos
        refine hJ' h8 re l8 b8 R8 g8 (fun r hr hb => hF r ?_ hb) fun u hu => ?_
        · have : r ≠ k := fun e => hbk (e ▸ hb)
          omega
        · rw [hre u hu]
          constructor
          · rintro ⟨r, ev', h1, h2⟩; exact ⟨r, ev', by omega, h2⟩
          · rintro ⟨r, ev', h1, h2, h3⟩
            have : r ≠ k := fun e => hbk (e ▸ h2)
            exact ⟨r, ev', by omega, h2, h3⟩
    · obtain rfl : k = g.n := by omega
      clear hI1 hI I hX1 hX2 hge hk w1
      have htl := takenB_len g by_ g.n
      refine CALL_mk en42 (sort_c g8 l8 (by omega)) ?_
      rintro en h9 ⟨rfl, l9, kp, ml, hperm, hsort, g9⟩
      have b9 := b8.keep kp k1
      have R9 := R8.keep kp k2
      clear g8 l8 b8 R8 kp
      simp [l9.cell _ _ _ (l0W.cell _ _ _ c0)]
      let near : Nat → Prop := fun v => re v = false ∧ ∃ i w, g.E i v w ∧ re w = true
      obtain ⟨I, hI⟩ : ∃ I : Nat → List Value → Heap → Prop, ∀ m xs h10, I m xs h10 ↔ ∃ (k : Nat) (y : Value) (cl : List Nat) (bc : Option Nat), xs = [.int .i64 k, y] ∧ k ≤ g.n ∧ m = g.n - k ∧ Le W h10 ∧ (IA h10 bb g.n fun v => oI (by_ v)) ∧ BA h10 bR g.n re ∧
          GL 3 W h10 False x ml bk ∧ GL 3 W h10 False y cl bc ∧ bc ≠ some bb ∧ bc ≠ some bR ∧ (∀ b, bk = some b → bc ≠ some b) ∧ cl.Pairwise (· < ·) ∧ cl.length ≤ k ∧ ∀ v, v ∈ cl ↔ v < k ∧ near v := ⟨_, fun _ _ _ => Iff.rfl⟩
      refine ⟨I, ⟨_, (hI _ _ _).2 ⟨0, _, [], none, rfl, Nat.zero_le _, rfl, l9, b9, R9, g9, GL.nil _ _ _ _, by simp, by simp, by simp, List.Pairwise.nil, by simp, fun v => by simp⟩⟩, ?_⟩
      clear l9 b9 R9 g9 h9 
      intro m X h9 hI1
      obtain ⟨k, y, cl, bc, hX, hk, rfl, l9, b9, R9, g9, gc, j1, j2, j3, hpw, hcl, hmem⟩ := (hI _ _ _).1 hI1
      simp only [List.cons.injEq, and_true] at hX
      obtain ⟨hX1, hX2⟩ := hX
      simp only [hX1, hX2]
      have w1 : IntKind.i64.wrap ((k : Int) + 1) = ((k + 1 : Nat) : Int) := by rw [wrap_in (by omega) (by omega)]; rfl
      simp
      refine ⟨fun hlt => ?_, fun hge => ?_⟩
      · have hk' : (k : Int) < (g.n : Int) := by omega
        intro r4 hr4
        have f4 := hr4.le l9
        have hb4 : bb ≠ r4 := hr4.nei b9.info
        have hR4 : bR ≠ r4 := hr4.nei R9.info
        have l10 := (l9.new hr4 #[.int .i64 0] 3).set_fresh f4 0 (.int .i64 k)
        have b10 := (b9.new hr4 #[.int .i64 0] 3).other hb4 (i := 0) (.int .i64 k)
        have R10 := (R9.new hr4 #[.int .i64 0] 3).other hR4 (i := 0) (.int .i64 k)
        have gne : ∀ {z : Value} {l : List Nat} {q : Option Nat}, GL 3 W h9 False z l q → q ≠ some r4 := by
          rintro z l q gz rfl
          obtain ⟨c, hc⟩ := gz.known
          exact hr4.nei hc rfl
        have kp : Keep (fun b => b ≠ r4) h9 ((h9.new r4 #[.int .i64 0] 3).set r4 0 (.int .i64 k)) := ((Keep.refl _ h9).new hr4 _ _).set (fun h => h rfl) _ _
        have g10 := g9.keep kp fun b hb e => gne g9 (by rw [hb, e])
        have gc10 := gc.keep kp fun b hb e => gne gc (by rw [hb, e])
        have r40 : ((h9.new r4 #[.int .i64 0] 3).set r4 0 (.int .i64 k)).cell r4 0 = some (.int .i64 k) := by simp
        generalize (h9.new r4 #[.int .i64 0] 3).set r4 0 (.int .i64 k) = h10 at l10 b10 R10 g10 gc10 r40
        refine JN.mk fun J hJ => ?_
        have hf : ¬ near k → J (.bool false) h10 := fun ht => by
          rw [hJ]
          simp
          refine ⟨_, by omega, (hI _ _ _).2 ⟨k + 1, y, cl, bc, by rw [w1], hlt, rfl, l10, b10, R10, g10, gc10, j1, j2, j3, hpw, by omega, fun v => ?_⟩⟩
          rw [hmem]
          constructor
          · rintro ⟨h1, h2⟩; exact ⟨by omega, h2⟩
          · rintro ⟨h1, h2⟩
            have : v ≠ k := fun e => ht (e ▸ h2)
            exact ⟨by omega, h2⟩
        have htr : near k → J (.bool true) h10 := fun ht => by
          rw [hJ]
          simp [r40]
          intro z hz
          have g11 := g10.keep ((Keep.refl (fun _ => True) h10).new hz #[.int .i64 k] 3) (fun _ _ => trivial)
          have gc11 := gc10.keep ((Keep.refl (fun _ => True) h10).new hz #[.int .i64 k] 3) (fun _ _ => trivial)
          refine AP_push (i := k) el_26 gc11 (l10.new hz _ _) (by omega) (by simp) ?_
          intro x' h11 bk' gc12 l11 _ hbk' kp
          have kb := ne_push hz j1 b10.info hbk'
          have kR := ne_push hz j2 R10.info hbk'
          have km : ∀ b, bk = some b → bk' ≠ some b := fun b hb => by
            rw [hb] at g10
            obtain ⟨c, hc⟩ := g10.known
            exact ne_push hz (j3 b hb) hc hbk'
          refine ⟨_, by omega, (hI _ _ _).2 ⟨k + 1, x', cl ++ [k], bk', by rw [w1], hlt, rfl, l11, (b10.new hz _ _).keep kp kb, (R10.new hz _ _).keep kp kR, g11.keep kp fun b hb => km b hb, gc12, kb, kR, km, ?_, by simp; omega, fun v => ?_⟩⟩
          · rw [List.pairwise_append]
            refine ⟨hpw, by simp, fun a ha b hb => ?_⟩
            simp at hb
            have := ((hmem a).1 ha).1
            omega
          · rw [List.mem_append, hmem]
            simp
            constructor
            · rintro (⟨h1, h2⟩ | rfl)
              · exact ⟨by omega, h2⟩
              · exact ⟨by omega, ht⟩
            · rintro ⟨h1, h2⟩
              by_cases e : v = k
              · exact .inr e
              · exact .inl ⟨by omega, h2⟩
        clear hJ
        simp [l10.cell _ _ _ r30, r40, hk', R10.cell k hlt]
        rw [ifV_bool]
        refine ⟨fun hnr => ?_, fun hr => hf fun h => by rw [h.1] at hr; cases hr⟩
        have hrk : re k = false := by simpa using hnr
        obtain ⟨bo, co, e2, hrow⟩ := aW.c2
        obtain ⟨x, ex, il⟩ := hrow k hlt
        simp [l10.cell _ _ _ r20, l10.cell _ _ _ e2, hk', l10.cell _ _ _ ex]
        have hE : ∀ i, i ∈ nxA es es.length k → g.E i k (g.ot i k) := fun i hi => by
          obtain ⟨h1, h2, h3⟩ := (aW.nxm k hlt i).1 hi
          have : ∃ w, g.E i k w := by
            rcases h3 with h | h
            · exact ⟨g.V i, h1, by rw [← h]; exact h2, .inl ⟨h, rfl⟩⟩
            · exact ⟨g.U i, h1, by rw [← h]; exact h2.symm, .inr ⟨rfl, h⟩⟩
          obtain ⟨w, e⟩ := this
          rw [e.ot]; exact e
        refine CALL_mk en60 (contains_c (aW.bs l10 b10) (l10.cell _ _ _ r20) (l10.cell _ _ _ r30) r40 R10 (il.le l10) (aW.nxl k hlt) hE) ?_
        rintro en h11 ⟨rfl, tt, rfl, htt⟩
        simp only [endR_ret]
        intro _
        have hnear : tt = true ↔ near k := by
          rw [htt]
          constructor
          · rintro ⟨i, hi, h⟩
            exact ⟨hrk, i, _, hE i hi, h⟩
          · rintro ⟨_, i, w, e, h⟩
            refine ⟨i, (aW.nxm k hlt i).2 ⟨e.lt, ?_, e.or.imp (·.1) (·.2)⟩, by rw [e.ot]; exact h⟩
            rcases e.or with h | h <;> rw [h.1, h.2]
            · exact e.ne
            · exact e.ne.symm
        cases tt with
        | true => exact htr (hnear.1 rfl)
        | false => exact hf fun h => by cases hnear.2 h
      · obtain rfl : k = g.n := by omega
        exact hRk _ _ _ _ _ _ _ (l0W.trans l9) (g9.base l0W) (gc.base l0W) j3 ⟨by_, re, M, hF, hre, hperm, hsort, hpw, hmem⟩

end Go.Proofs.Ythchjolcjicpgaa
