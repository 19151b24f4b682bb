/- The contract of bimatch.Solve. -/
import Derived.Test.YthchjolcjicpgaaCPhases
import Derived.Test.YthchjolcjicpgaaCCover
import Derived.Test.YthchjolcjicpgaaCSort
import Derived.Test.YthchjolcjicpgaaMPair5
namespace Go.Proofs.Ythchjolcjicpgaa
open Go.HW Pair

theorem meth82 (a : Option Addr) (Q : FuncId × Value → Heap → Prop) (E : Value → Heap → Prop) (h : Heap) : hwp Try.prog (method (Try.prog.types.size + Made.depth) 82 (.pointer a) "compass/bimatch.match") Q E h = Q (156, .pointer a) h := by kernel_rfl
theorem meth85 (a : Option Addr) (Q : FuncId × Value → Heap → Prop) (E : Value → Heap → Prop) (h : Heap) : hwp Try.prog (method (Try.prog.types.size + Made.depth) 85 (.pointer a) "compass/bimatch.match") Q E h = Q (158, .pointer a) h := by kernel_rfl

/-- What Solve answers: new memory, but for a refusal. -/
def SolR (h : Heap) (n left kind : Int) (es : List RE) (en : Ending) (h' : Heap) : Prop :=
  (∃ c a : Int, c ≠ 0 ∧ SidR n left es c a ∧ en = .returned (.tuple #[.slice none 0 0, .slice none 0 0, .int .i64 c])) ∨
  (Two n left es ∧ ¬ (kind = 1 ∨ kind = 2) ∧ en = .returned (.tuple #[.slice none 0 0, .slice none 0 0, .int .i64 50])) ∨
  ((kind = 1 ∨ kind = 2) ∧ ∃ (n' left' : Nat) (t : Two n' left' es) (xm xc : Value) (ml cl : List Nat) (bm bc : Option Nat), n = n' ∧ left = left' ∧ en = .returned (.tuple #[xm, xc, .int .i64 0]) ∧
    GL 3 h h' False xm ml bm ∧ GL 3 h h' False xc cl bc ∧ (∀ b, bm = some b → bc ≠ some b) ∧ Solved (toG n' left' es t) ml cl)

/-- The rows of edges, as they are built. -/
structure Rows (Q h : Heap) (bo bb left : Nat) (rx : Nat → Value) (rl : Nat → List Nat) (rb : Nat → Option Nat) : Prop where
  arr : GA (α := Value) id 26 h bo left rx
  gl : ∀ v, v < left → GL 3 Q h True (rx v) (rl v) (rb v)
  no : ∀ v, v < left → rb v ≠ some bo
  nb : ∀ v, v < left → rb v ≠ some bb
  ne : ∀ v v', v < left → v' < left → v ≠ v' → ∀ b, rb v = some b → rb v' ≠ some b

theorem Rows.keep {Q h h' : Heap} {bo bb left : Nat} {rx : Nat → Value} {rl : Nat → List Nat} {rb : Nat → Option Nat} (a : Rows Q h bo bb left rx rl rb) (k : Keep (fun b => b ≠ bb) h h') (hne : bo ≠ bb) : Rows Q h' bo bb left rx rl rb :=
  ⟨a.arr.keep k hne, fun v hv => (a.gl v hv).keep k fun b hb e => a.nb v hv (by rw [hb, e]), a.no, a.nb, a.ne⟩

/-- A row has grown. -/
theorem Rows.push {Q h h' : Heap} {bo bb left : Nat} {rx : Nat → Value} {rl : Nat → List Nat} {rb : Nat → Option Nat} (a : Rows Q h bo bb left rx rl rb) {v i : Nat} (hv : v < left) {x' : Value} {bk' : Option Nat} (hbb : ∃ y, h.info bb = some y)
    (gl : GL 3 Q h' True x' (rl v ++ [i]) bk') (hbk : bk' = rb v ∨ ∃ r, bk' = some r ∧ h.fresh r) (kp : Keep (fun b => bk' ≠ some b) h h') :
    Rows Q (h'.set bo v x') bo bb left (upd rx v x') (upd rl v (rl v ++ [i])) (upd rb v bk') := by
  have kn : ∀ b, (∃ y, h.info b = some y) → rb v ≠ some b → bk' ≠ some b := by
    rintro b ⟨y, hy⟩ h2
    rcases hbk with rfl | ⟨r, rfl, hr⟩
    · exact h2
    · exact fun e => hr.nei hy (by cases e; rfl)
  have ko : bk' ≠ some bo := kn bo ⟨_, a.arr.info⟩ (a.no v hv)
  have kset : Keep (fun b => b ≠ bo) h' (h'.set bo v x') := (Keep.refl (fun b => b ≠ bo) h').set (fun h => h rfl) _ _
  have oth : ∀ w, w < left → w ≠ v → ∀ b, rb w = some b → bk' ≠ some b := fun w hw hne b hb => by
    have gw := a.gl w hw
    rw [hb] at gw
    obtain ⟨c, hc⟩ := gw.known
    exact kn b ⟨_, hc⟩ fun e => a.ne v w hv hw (Ne.symm hne) b e hb
  refine ⟨(a.arr.keep kp ko).set x', fun w hw => ?_, fun w hw => ?_, fun w hw => ?_, fun w w' hw hw' hne b hb => ?_⟩
  · by_cases e : w = v
    · subst e
      simp only [upd_same]
      exact gl.keep kset fun b hb e => ko (by rw [hb, e])
    · simp only [upd_ne _ _ e]
      exact ((a.gl w hw).keep kp fun b hb => oth w hw e b hb).keep kset fun b hb e => a.no w hw (by rw [hb, e])
  · by_cases e : w = v
    · subst e; rw [upd_same]; exact ko
    · rw [upd_ne _ _ e]; exact a.no w hw
  · by_cases e : w = v
    · subst e; rw [upd_same]; exact kn bb hbb (a.nb w hw)
    · rw [upd_ne _ _ e]; exact a.nb w hw
  · by_cases e : w = v
    · subst e
      rw [upd_same] at hb
      rw [upd_ne _ _ (Ne.symm hne)]
      exact fun e2 => oth w' hw' (Ne.symm hne) b e2 hb
    · rw [upd_ne _ _ e] at hb
      by_cases e' : w' = v
      · subst e'; rw [upd_same]; exact oth w hw e b hb
      · rw [upd_ne _ _ e']; exact a.ne w w' hw hw' hne b hb

theorem solve_c {h : Heap} {n left kind : Int} {x : Value} {es : List RE} (hx : ES h x es) :
    HCalls Try.prog 16 #[.agg #[.int .i64 n, x], .int .i64 left, .int .i64 kind] h fun en h' => Le h h' ∧ SolR h n left kind es en h' := by
  apply H16
  obtain ⟨R, hR⟩ : ∃ R : Ending → Heap → Prop, ∀ en h', R en h' ↔ Le h h' ∧ SolR h n left kind es en h' := ⟨_, fun _ _ => Iff.rfl⟩
  have hRe : (fun en h' => Le h h' ∧ SolR h n left kind es en h') = R := by funext en h'; exact propext (hR en h').symm
  rw [hRe]
  clear hRe
  unfold F16
  intro r hr
  obtain ⟨S, hS⟩ : ∃ S, S = h.new r (Value.cells (.agg #[.int .i64 n, x])) 25 := ⟨_, rfl⟩
  rw [← hS]
  have lS : Le h S := by rw [hS]; exact Heap.le_new hr _ _
  have c0 : S.cell r 0 = some (.int .i64 n) := by rw [hS]; simp
  have c1 : S.cell r 1 = some x := by rw [hS]; simp
  have hx := hx.le lS
  clear hS
  simp [c0, c1]
  refine CALL_mk en17 (sides_c hx) ?_
  rintro en h1 ⟨c, a, rfl, l1, hs⟩
  simp
  intro r1 hr1
  have f1 := hr1.le l1
  have l2 := l1.new hr1 #[.int .i64 0, .int .i64 0] 31
  simp [setL_cons]
  obtain ⟨h2, hh2⟩ : ∃ h2, h2 = ((h1.new r1 #[.int .i64 0, .int .i64 0] 31).set r1 0 (.int .i64 c)).set r1 1 (.int .i64 a) := ⟨_, rfl⟩
  have l3 : Le S h2 := by rw [hh2]; exact (l2.set_fresh f1 _ _).set_fresh f1 _ _
  rw [← hh2]
  clear hh2 l2
  refine ⟨fun hne => (hR _ _).2 ⟨lS.trans l3, .inl ⟨c, a, hne, hs, rfl⟩⟩, fun he => ?_⟩
  have two := hs.two.1 he
  have t0 := two.fine.n0
  have t1 := two.fine.n1
  have t2 := two.l0
  have t3 := two.l1
  obtain ⟨n, rfl⟩ : ∃ n' : Nat, n = n' := ⟨n.toNat, by omega⟩
  obtain ⟨left, rfl⟩ : ∃ n' : Nat, left = n' := ⟨left.toNat, by omega⟩
  have hlen := two.fine.m
  obtain ⟨A, cx, rfl, hcap, hA⟩ := hx.shape
  clear he hs hr1 f1
  simp [l3.cell _ _ _ c0, l3.cell _ _ _ c1, ms_77 left (by omega) (by omega)]
  intro bo hbo
  have fo := hbo.le l3
  have l4 := l3.new hbo (zrow #[.slice none 0 0] left) 26
  have a4 := GA.fresh (α := Value) id 26 h2 bo left (.slice none 0 0)
  simp only [id] at a4
  generalize h2.new bo (zrow #[.slice none 0 0] left) 26 = h4 at l4 a4
  simp [ms_26 n (by omega) (by omega)]
  intro bb hbb
  have fb := hbb.le l4
  have hob : bo ≠ bb := hbb.nei a4.info
  have l5 := l4.new hbb (zrow #[.int .i64 0] n) 3
  have a5 := a4.new hbb (zrow #[.int .i64 0] n) 3
  have b5 := GA.fresh (Value.int .i64) 3 h4 bb n 0
  generalize h4.new bb (zrow #[.int .i64 0] n) 3 = h5 at l5 a5 b5
  intro p hp
  have fp := hp.le l5
  have hop : bo ≠ p := hp.nei a5.info
  have hbp : bb ≠ p := hp.nei b5.info
  obtain ⟨P, hP⟩ : ∃ P : Array Value, P = #[.int .i64 n, .slice A es.length cx, .int .i64 left, .slice (some ⟨bo, 0, none⟩) left left, .slice (some ⟨bb, 0, none⟩) n n] := ⟨_, rfl⟩
  rw [← hP]
  obtain ⟨Q, hQ⟩ : ∃ Q, Q = S.new p P 79 := ⟨_, rfl⟩
  have lSQ : Le S Q := by rw [hQ]; exact Heap.le_new fp _ _
  have l6 : Le Q (h5.new p P 79) := by
    rw [hQ]
    refine ⟨fun b i v hv => ?_, fun b v hv => ?_⟩
    · by_cases e : b = p
      · subst e; rw [new_cell] at hv ⊢; exact hv
      · rw [new_cell_ne _ e] at hv ⊢; exact l5.cell _ _ _ hv
    · by_cases e : b = p
      · subst e; rw [new_info] at hv ⊢; exact hv
      · rw [new_info_ne _ e] at hv ⊢; exact l5.info _ _ hv
  have a6 := a5.new hp P 79
  have b6 := b5.new hp P 79
  have fo : Q.fresh bo := by rw [hQ]; exact ⟨by rw [new_info_ne _ hop]; exact fo.1, fun i => by rw [new_cell_ne _ hop]; exact fo.2 i⟩
  have fb : Q.fresh bb := by rw [hQ]; exact ⟨by rw [new_info_ne _ hbp]; exact fb.1, fun i => by rw [new_cell_ne _ hbp]; exact fb.2 i⟩
  have p0 : Q.cell p 0 = some (.int .i64 n) := by rw [hQ, new_cell, hP]; rfl
  have p1 : Q.cell p 1 = some (.slice A es.length cx) := by rw [hQ, new_cell, hP]; rfl
  have p2 : Q.cell p 2 = some (.int .i64 left) := by rw [hQ, new_cell, hP]; rfl
  have p3 : Q.cell p 3 = some (.slice (some ⟨bo, 0, none⟩) left left) := by rw [hQ, new_cell, hP]; rfl
  have p4 : Q.cell p 4 = some (.slice (some ⟨bb, 0, none⟩) n n) := by rw [hQ, new_cell, hP]; rfl
  have c1 := lSQ.cell _ _ _ c1
  have hx := hx.le lSQ
  have hA : ∀ (i : Nat) (e : RE), es[i]? = some e → _ := fun i e he => hA i e he
  clear hQ hP
  generalize h5.new p P 79 = h6 at l6 a6 b6
  have lS := lS.trans lSQ
  clear l5 l4 l3 hp hbb hbo a4 a5 b5 fp r1 l1
  simp [l6.cell _ _ _ c1]
  obtain ⟨I, hI⟩ : ∃ I : Nat → List Value → Heap → Prop, ∀ m xs h1, I m xs h1 ↔ ∃ (j : Nat) (rx : Nat → Value) (rb : Nat → Option Nat), xs = [.int .i64 j] ∧ j ≤ es.length ∧ m = es.length - j ∧ Le Q h1 ∧ IA h1 bb n (fun _ => 0) ∧
      Rows Q h1 bo bb left rx (fun v => (List.range j).filter fun i => atE loE es i == v) rb := ⟨_, fun _ _ _ => Iff.rfl⟩
  refine ⟨I, ⟨_, (hI _ _ _).2 ⟨0, _, fun _ => none, rfl, by omega, rfl, l6, b6, a6, fun v _ => GL.nil _ _ _ _, by simp, by simp, by simp⟩⟩, ?_⟩
  clear l6 a6 b6 h6
  intro m X h6 hI1
  obtain ⟨j, rx, rb, hX, hj, rfl, l6, b6, rows⟩ := (hI _ _ _).1 hI1
  simp only [List.cons.injEq, and_true] at hX
  simp only [hX]
  simp
  refine ⟨fun hlt => ?_, fun hge => ?_⟩
  · have hA := (hx.shape)
    obtain ⟨A', cx', e', _, hA⟩ := hA
    cases e'
    have he := List.getElem?_eq_getElem hlt
    obtain ⟨b, o, rfl, e0, e1, e2, e3⟩ := hA j _ he
    generalize he' : es[j] = e at e0 e1 e2 e3 he
    obtain ⟨q1, q2, q3, q4⟩ := two.low he
    simp [hlt, l6.cell _ _ _ e0, l6.cell _ _ _ e1, l6.cell _ _ _ e2, l6.cell _ _ _ e3]
    intro r3 hr3
    have f3 := hr3.le l6
    have l7 := l6.new hr3 #[.int .i64 0, .int .i64 0, .int .i64 0, .int .i64 0] 40
    simp [setL_cons]
    obtain ⟨h7, hh7⟩ : ∃ h7, h7 = ((((h6.new r3 #[.int .i64 0, .int .i64 0, .int .i64 0, .int .i64 0] 40).set r3 0 (.int .i64 e.u)).set r3 1 (.int .i64 e.v)).set r3 2 (.int .i64 e.cap)).set r3 3 (.int .i64 e.cost) := ⟨_, rfl⟩
    have l8 : Le Q h7 := by rw [hh7]; exact (((l7.set_fresh f3 _ _).set_fresh f3 _ _).set_fresh f3 _ _).set_fresh f3 _ _
    have kp7 : Keep (fun b => b ≠ r3) h6 h7 := by rw [hh7]; exact ((((((Keep.refl _ h6).new hr3 _ _).set (fun h => h rfl) _ _).set (fun h => h rfl) _ _).set (fun h => h rfl) _ _).set (fun h => h rfl) _ _)
    have rows7 : Rows Q h7 bo bb left rx (fun v => (List.range j).filter fun i => atE loE es i == v) rb :=
      ⟨rows.arr.keep kp7 (hr3.nei rows.arr.info), fun v hv => (rows.gl v hv).keep kp7 fun b hb e => by
        have gv := rows.gl v hv
        rw [hb] at gv
        obtain ⟨c, hc⟩ := gv.known
        exact hr3.nei hc e, rows.no, rows.nb, rows.ne⟩
    have b7 := b6.keep kp7 (hr3.nei b6.info)
    rw [← hh7]
    clear hh7 l7
    have lo : (if e.v < e.u then e.v else e.u) = ((loE e : Nat) : Int) := by unfold loE; split <;> omega
    have lol : ((loE e : Nat) : Int) < (left : Int) := by omega
    simp [lo, l8.cell _ _ _ p3, q1, rows7.arr.cell _ q1]
    intro r4 hr4
    have l9 := l8.new hr4 #[.int .i64 j] 3
    have rows9 : Rows Q (h7.new r4 #[.int .i64 j] 3) bo bb left rx (fun v => (List.range j).filter fun i => atE loE es i == v) rb :=
      rows7.keep ((Keep.refl _ h7).new hr4 _ _) hob
    have b9 := b7.new hr4 #[.int .i64 j] 3
    generalize hh9 : h7.new r4 #[.int .i64 j] 3 = h9 at l9 rows9 b9
    have hll : ((List.range j).filter fun i => atE loE es i == loE e).length < 1000000000 := by
      have := List.length_filter_le (fun i => atE loE es i == loE e) (List.range j)
      simp at this
      omega
    refine AP_push (i := j) el_26 (rows9.gl _ q1) l9 hll (by rw [← hh9]; simp) ?_
    intro x' h10 bk' gl10 l10 hle hbk' kp10
    refine ⟨hle trivial, fun _ => ?_⟩
    have rows11 := rows9.push q1 ⟨_, b9.info⟩ gl10 hbk' kp10
    have hkb : bk' ≠ some bb := by
      rcases hbk' with rfl | ⟨r', rfl, hr'⟩
      · exact rows9.nb _ q1
      · exact fun e => hr'.nei b9.info (by cases e; rfl)
    have hkO : bk' ≠ some bo := by
      rcases hbk' with rfl | ⟨r', rfl, hr'⟩
      · exact rows9.no _ q1
      · exact fun e => hr'.nei rows9.arr.info (by cases e; rfl)
    have arr10 := rows9.arr.keep kp10 hkO
    obtain ⟨A2, c2, hx2, _⟩ := gl10.shape
    have hrl : (fun v => (List.range (j + 1)).filter fun i => atE loE es i == v) = upd (fun v => (List.range j).filter fun i => atE loE es i == v) (loE e) ((List.range j).filter (fun i => atE loE es i == loE e) ++ [j]) := by
      funext v
      have ea : atE loE es j = loE e := atE_of he
      by_cases e : v = loE e
      · subst e
        simp [List.range_succ, ea]
      · rw [upd_ne _ _ e, List.range_succ, List.filter_append]
        have : (atE loE es j == v) = false := by rw [ea]; simpa using Ne.symm e
        simp [this]
    have w1 : IntKind.i64.wrap ((j : Int) + 1) = ((j + 1 : Nat) : Int) := by rw [wrap_in (by omega) (by omega)]; rfl
    have fin : ∃ m', m' < es.length - j ∧ I m' [.int .i64 (IntKind.i64.wrap ((j : Int) + 1))] (h10.set bo (loE e) x') :=
      ⟨_, by omega, (hI _ _ _).2 ⟨j + 1, _, _, by rw [w1], by omega, rfl, l10.set_fresh fo _ _, (b9.keep kp10 hkb).other hob.symm _, by rw [hrl]; exact rows11⟩⟩
    rw [hx2] at fin ⊢
    simp [arr10.can q1]
    rw [List.length_append] at fin
    exact fun _ => fin
  · have hj' : j = es.length := by omega
    subst hj'
    clear hI1 hI I hX X hge hj
    simp [l6.cell _ _ _ p4]
    obtain ⟨I, hI⟩ : ∃ I : Nat → List Value → Heap → Prop, ∀ m xs h1, I m xs h1 ↔ ∃ (v : Nat) (by_ : Nat → Int), xs = [.int .i64 v] ∧ v ≤ n ∧ m = n - v ∧ Le Q h1 ∧ IA h1 bb n by_ ∧ (∀ u, u < v → by_ u = -1) ∧
        Rows Q h1 bo bb left rx (fun v => (List.range es.length).filter fun i => atE loE es i == v) rb := ⟨_, fun _ _ _ => Iff.rfl⟩
    refine ⟨I, ⟨_, (hI _ _ _).2 ⟨0, fun _ => 0, rfl, by omega, rfl, l6, b6, by simp, rows⟩⟩, ?_⟩
    clear l6 b6 rows h6
    intro m X h6 hI1
    obtain ⟨v, by_, hX, hv, rfl, l6, b6, hby, rows⟩ := (hI _ _ _).1 hI1
    simp only [List.cons.injEq, and_true] at hX
    simp only [hX]
    simp
    refine ⟨fun hlt => ?_, fun hge => ?_⟩
    · have hlt' : (v : Int) < (n : Int) := by omega
      have w1 : IntKind.i64.wrap ((v : Int) + 1) = ((v + 1 : Nat) : Int) := by rw [wrap_in (by omega) (by omega)]; rfl
      simp [l6.cell _ _ _ p4, hlt, hlt', b6.can hlt]
      refine ⟨_, ?_, (hI _ _ _).2 ⟨v + 1, _, by rw [w1], by omega, rfl, l6.set_fresh fb _ _, b6.set (-1), fun u hu => ?_, rows.keep ((Keep.refl _ h6).set (fun h => h rfl) _ _) hob⟩⟩
      · omega
      · by_cases e : u = v
        · rw [e, upd_same]
        · rw [upd_ne _ _ e]; exact hby u (by omega)
    · have hv' : v = n := by omega
      subst hv'
      clear hI1 hI I hX X hge hv
      refine JN.mk fun J hJ0 => ?_
      obtain ⟨g, hg⟩ : ∃ g, g = toG v left es two := ⟨_, rfl⟩
      have gn : g.n = v := by rw [hg]; rfl
      have gl : g.left = left := by rw [hg]; rfl
      have gm : g.m = es.length := by rw [hg]; rfl
      have gL : g.L = atE loE es := by rw [hg]; rfl
      have gR : g.R = atE hiE es := by rw [hg]; rfl
      have ps : PS (h6.drop bb) p bo bb g es fun v => (List.range es.length).filter fun i => atE loE es i == v := by
        have L := le_drop l6 fb
        have R := rows.keep (keep_drop h6 bb) hob
        refine ⟨⟨?_, ⟨_, L.cell _ _ _ p1, hx.le L⟩, ?_, fun i e he => ?_, ?_⟩, gm, fun i e he => ?_, ⟨left, ?_⟩, fun w hw => ⟨rx w, R.arr.cell w (by omega), (R.gl w (by omega)).il⟩, fun w hw i => ?_, ⟨v, ?_⟩, hlen, fun w hw => ?_⟩
        · rw [gn]; exact L.cell _ _ _ p0
        · rw [gl]; exact L.cell _ _ _ p2
        · have := (two.fine.ok i e he).1
          unfold RE.inn at this
          omega
        · omega
        · obtain ⟨_, _, _, h4⟩ := two.low he
          rw [gL, gR, atE_of he, atE_of he]
          exact h4
        · rw [gl]; exact L.cell _ _ _ p3
        · rw [gm, gL]; simp
        · rw [gn]; exact L.cell _ _ _ p4
        · have := List.length_filter_le (fun i => atE loE es i == w) (List.range es.length)
          simp at this
          omega
      have hJ : ∀ (t : TypeId) (f : FuncId) (s : Nat) (S1 h7 : Heap), (∀ (Q : FuncId × Value → Heap → Prop) (E : Value → Heap → Prop) (h : Heap), hwp Try.prog (method (Try.prog.types.size + Made.depth) t (.pointer (some ⟨s, 0, none⟩)) "compass/bimatch.match") Q E h = Q (f, .pointer (some ⟨s, 0, none⟩)) h) →
          entersB Try.prog f → HCalls Try.prog f #[.pointer (some ⟨s, 0, none⟩)] h7 (fun e h' => e = .returned (.tuple #[]) ∧ Le S1 h' ∧ ∃ by', IA h' bb g.n by' ∧ Pair.M g by' ∧ Best g by' g.left) →
          Le (h6.drop bb) S1 → S1.fresh bb → (kind = 1 ∨ kind = 2) → J (.slice none 0 0) (.iface t (.pointer (some ⟨s, 0, none⟩))) h7 := by
        intro t f s S1 h7 hm hen hc lS1 fS1 hk
        simp only [hJ0, INV]
        clear hJ0 J
        refine ⟨f, _, fun Q E h hq => by rw [hm]; exact hq, CALL_mk hen hc ?_⟩
        rintro e h8 ⟨rfl, l8, by1, b8, hM, hB⟩
        have ps1 := ps.le lS1
        have lQ1 := (le_drop l6 fb).trans lS1
        rw [gn] at b8
        have hle : left ≤ v := by omega
        simp [l8.cell _ _ _ (lQ1.cell _ _ _ p4), hle]
        obtain ⟨I, hI⟩ : ∃ I : Nat → List Value → Heap → Prop, ∀ m xs h1, I m xs h1 ↔ ∃ (u : Nat) (x : Value) (bk : Option Nat), xs = [.int .i64 u, x] ∧ u ≤ left ∧ m = left - u ∧ Le S1 h1 ∧ IA h1 bb v by1 ∧ GL 3 S1 h1 False x (taken by1 u) bk ∧ bk ≠ some bb := ⟨_, fun _ _ _ => Iff.rfl⟩
        refine ⟨I, ⟨_, (hI _ _ _).2 ⟨0, _, none, rfl, by omega, rfl, l8, b8, GL.nil _ _ _ _, by simp⟩⟩, ?_⟩
        clear l8 b8
        intro m X h9 hI1
        obtain ⟨u, x, bk, hX, hu, rfl, l9, b9, g9, k9⟩ := (hI _ _ _).1 hI1
        simp only [List.cons.injEq, and_true] at hX
        obtain ⟨hX1, hX2⟩ := hX
        simp only [hX1, hX2]
        have htl := taken_len by1 u
        simp
        refine ⟨fun hlt => ?_, fun hge => ?_⟩
        · have hlt' : (u : Int) < (left : Int) := by omega
          have w1 : IntKind.i64.wrap ((u : Int) + 1) = ((u + 1 : Nat) : Int) := by rw [wrap_in (by omega) (by omega)]; rfl
          simp [hlt, hlt', b9.cell u (by omega)]
          refine ⟨fun hpos => ?_, fun hneg => ?_⟩
          · intro r hr
            have g10 := g9.keep ((Keep.refl (fun _ => True) h9).new hr #[.int .i64 (by1 u)] 3) (fun _ _ => trivial)
            refine AP_push (i := (by1 u).toNat) el_26 g10 (l9.new hr _ _) (by omega) (by simp; omega) ?_
            intro x' h11 bk' g11 l11 _ hbk' kp
            have kb := ne_push hr k9 b9.info hbk'
            refine ⟨_, ?_, (hI _ _ _).2 ⟨u + 1, x', bk', by rw [w1], by omega, rfl, l11, (b9.new hr _ _).keep kp kb, by rw [taken, if_pos hpos]; exact g11, kb⟩⟩
            omega
          · refine ⟨_, ?_, (hI _ _ _).2 ⟨u + 1, x, bk, by rw [w1], by omega, rfl, l9, b9, by rw [taken, if_neg (by omega), List.append_nil]; exact g9, k9⟩⟩
            omega
        · have hu' : u = left := by omega
          subst hu'
          refine CALL_mk en42 (sort_c g9 l9 (by omega)) ?_
          rintro e h10 ⟨rfl, l10, kp, l', hp, hs, g10⟩
          have b10 := b9.keep kp k9
          simp
          have lSd := le_drop l10 fS1
          have ps2 := ps1.le lSd
          have gD := g10.keep (keep_drop h10 bb) fun b hb e => k9 (by rw [hb, e])
          have b10' : IA h10 bb g.n by1 := by rw [gn]; exact b10
          refine CALL_mk en43 (cover_c ps2 (drop_le h10 bb) (drop_fresh h10 bb) b10' hM hB) ?_
          rintro e h11 ⟨xc, cl, bc, rfl, l11, gc, hsol⟩
          simp
          have lh : Le h S1 := lS.trans lQ1
          have hnd : l'.Nodup := hp.symm.nodup (taken_nodup hM _ (by omega))
          refine (hR _ _).2 ⟨lh.trans (lSd.trans l11), .inr (.inr ⟨hk, v, u, two, x, xc, l', cl, bk, bc, rfl, rfl, rfl, (gD.le l11).base lh, gc.base (lh.trans lSd), fun b hb hc => ?_, ?_⟩)⟩
          · subst hb
            subst hc
            obtain ⟨c, hc⟩ := gD.known
            have := gc.1.1
            rw [hc] at this
            cases this
          · rw [← hg]
            refine hsol l' (rise hs hnd) fun i => ?_
            rw [hp.mem_iff]
            rw [← gl] 
            exact taken_iff hM i
      clear hJ0
      have newB : ∀ (s : Nat) (c : Array Value) (t : TypeId), h6.fresh s → c[0]? = some (.pointer (some ⟨p, 0, none⟩)) → ∃ S1, Le (h6.drop bb) S1 ∧ Le S1 (h6.new s c t) ∧ S1.fresh bb ∧ S1.cell s 0 = some (.pointer (some ⟨p, 0, none⟩)) ∧ S1.cell s 1 = none ∧ S1.cell s 2 = none ∧ S1.info s = some (t, c.size) := by
        intro s c t hs hc
        have hne : bb ≠ s := hs.nei b6.info
        refine ⟨(h6.drop bb).newP s [.pointer (some ⟨p, 0, none⟩)] t c.size, le_newP (hs.le (drop_le _ _)) _ _ _, newP_le (drop_le _ _) hs _ _ _ hc, ⟨by simp [Heap.newP, hne, Heap.drop], fun i => by simp [Heap.newP, hne, Heap.drop]⟩, by simp [Heap.newP], by simp [Heap.newP], by simp [Heap.newP], by simp [Heap.newP]⟩
      have b6' : IA h6 bb g.n by_ := by rw [gn]; exact b6
      have hz : ∀ x, x < g.n → by_ x = -1 := fun x hx => hby x (by omega)
      refine ⟨fun k1 s hs => ?_, fun k1 => ⟨fun k2 s hs => ?_, fun k2 => (hR _ _).2 ⟨lS.trans l6, .inr (.inl ⟨two, by omega, rfl⟩)⟩⟩⟩
      · obtain ⟨S1, y1, y2, y3, y4, y5, y6, y7⟩ := newB s #[.pointer (some ⟨p, 0, none⟩), .slice none 0 0] 84 hs rfl
        exact hJ 82 156 s S1 _ (meth82 _) en156 (simple_match (ps.le y1) y4 y5 y7 y2 y3 (b6'.new hs _ _) hz) y1 y3 (.inl k1)
      · obtain ⟨S1, y1, y2, y3, y4, y5, y6, y7⟩ := newB s #[.pointer (some ⟨p, 0, none⟩), .slice none 0 0, .slice none 0 0] 87 hs rfl
        exact hJ 85 158 s S1 _ (meth85 _) en158 (phases_match (ps.le y1) y4 y5 y6 y7 y2 y3 (b6'.new hs _ _) hz) y1 y3 (.inr k2)

end Go.Proofs.Ythchjolcjicpgaa
