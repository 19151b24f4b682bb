/- The contract of bimatch's cover. -/
import Derived.Test.YthchjolcjicpgaaCTry
import Derived.Test.YthchjolcjicpgaaCSimple
import Derived.Test.YthchjolcjicpgaaMPair4
namespace Go.Proofs.Ythchjolcjicpgaa
open Go.HW Pair

theorem ne_push {bk bk' : Option Nat} {h : Heap} {r b : Nat} {c : Array Value} {t : TypeId} {x : TypeId × Nat} (hr : h.fresh r) (k : bk ≠ some b) (hi : h.info b = some x)
    (hbk' : bk' = bk ∨ ∃ r', bk' = some r' ∧ (h.new r c t).fresh r') : bk' ≠ some b := by
  rcases hbk' with rfl | ⟨r', rfl, hr'⟩
  · exact k
  · have : (h.new r c t).info b = some x := by rw [new_info_ne _ (hr.nei hi)]; exact hi
    exact fun e => hr'.nei this (by cases e; rfl)

theorem cover_c {S h : Heap} {p bo bb : Nat} {g : G} {es : List RE} {outL : Nat → List Nat} {by_ : Nat → Int} (a : PS S p bo bb g es outL) (l : Le S h) (fb : S.fresh bb) (hb : IA h bb g.n by_) (hM : Pair.M g by_) (hB : Best g by_ g.left) :
    HCalls Try.prog 43 #[.pointer (some ⟨p, 0, none⟩)] h fun e h' => ∃ x cl bk, e = .returned x ∧ Le S h' ∧ GL 3 S h' False x cl bk ∧
      ∀ ml : List Nat, ml.Pairwise (· < ·) → (∀ i, i ∈ ml ↔ i < g.m ∧ by_ (g.L i) = (i : Int)) → Solved g ml cl := by
  apply H43
  obtain ⟨DL, DR, dead, hfr⟩ := hB
  obtain ⟨c3, e3⟩ := a.c3
  obtain ⟨c4, e4⟩ := a.c4
  have g0 := a.pg.c0
  have g2 := a.pg.c2
  have en_le := a.pg.small
  have hn := g.hn
  simp only [F43, JN]
  simp [l.cell _ _ _ g0, l.cell _ _ _ g2, ms_74 g.n (by omega) (by omega)]
  intro br hbr
  have fr := hbr.le l
  have hbbr : bb ≠ br := hbr.nei hb.info
  have l1 := l.new hbr (zrow #[.bool false] g.n) 4
  have b1 := hb.new hbr (zrow #[.bool false] g.n) 4
  have r1 := GA.fresh Value.bool 4 h br g.n false
  generalize h.new br (zrow #[.bool false] g.n) 4 = h1 at l1 b1 r1
  simp [l1.cell _ _ _ g2]
  obtain ⟨I, hI⟩ : ∃ I : Nat → List Value → Heap → Prop, ∀ m xs h1, I m xs h1 ↔ ∃ (v : Nat) (re : Nat → Bool) (st : List Nat) (x : Value) (bk : Option Nat), xs = [.int .i64 v, x] ∧ v ≤ g.left ∧ m = g.left - v ∧ Le S h1 ∧ IA h1 bb g.n by_ ∧ BA h1 br g.n re ∧
      GL 3 S h1 False x st bk ∧ bk ≠ some bb ∧ bk ≠ some br ∧ st.length ≤ v ∧ (∀ u, u ∈ st ↔ u < v ∧ by_ u = -1) ∧ ∀ u, re u = true ↔ u < v ∧ by_ u = -1 := ⟨_, fun _ _ _ => Iff.rfl⟩
  refine ⟨I, ⟨_, (hI _ _ _).2 ⟨0, _, [], _, none, rfl, by omega, rfl, l1, b1, r1, GL.nil _ _ _ _, by simp, by simp, by simp, by simp, by simp⟩⟩, ?_⟩
  clear l1 b1 r1 h1
  intro m X h1 hI1
  obtain ⟨v, re, st, x, bk, hX, hv, rfl, l1, b1, r1, gl, k1, k2, hsl, hst, hre⟩ := (hI _ _ _).1 hI1
  simp only [List.cons.injEq, and_true] at hX
  obtain ⟨hX1, hX2⟩ := hX
  simp only [hX1, hX2]
  simp
  refine ⟨fun hlt => ?_, fun hge => ?_⟩
  · have hvn : v < g.n := by omega
    have hvn' : (v : Int) < (g.n : Int) := by omega
    have w1 : IntKind.i64.wrap ((v : Int) + 1) = ((v + 1 : Nat) : Int) := by rw [wrap_in (by omega) (by omega)]; rfl
    simp [l1.cell _ _ _ e4, hvn, hvn', b1.cell v hvn, r1.can hvn]
    refine ⟨fun hneg => ?_, fun hpos => ?_⟩
    · have hfree : by_ v = -1 := by
        rcases hM.some v hvn with h | ⟨k, _, h, _⟩
        · exact h
        · omega
      intro r hr
      have l5 := l1.set_fresh fr v (.bool true)
      have b5 := b1.other hbbr (i := v) (.bool true)
      have z5 := r1.set (i := v) true
      have gl5 : GL 3 S (h1.set br v (.bool true)) False x st bk := gl.keep ((Keep.refl (fun b => b ≠ br) h1).set (fun h => h rfl) _ _) fun b hb e => k2 (by rw [hb, e])
      generalize h1.set br v (.bool true) = h5 at l5 b5 z5 gl5 hr
      have gl6 := gl5.keep ((Keep.refl (fun _ => True) h5).new hr #[.int .i64 v] 3) (fun _ _ => trivial)
      refine AP_push (i := v) el_26 gl6 (l5.new hr _ _) (by omega) (by simp) ?_
      intro x' h7 bk' gl7 l7 _ hbk' kp
      have kb := ne_push hr k1 b5.info hbk'
      have kr := ne_push hr k2 z5.info hbk'
      refine ⟨_, ?_, (hI _ _ _).2 ⟨v + 1, _, _, x', bk', by rw [w1], by omega, rfl, l7, (b5.new hr _ _).keep kp kb, (z5.new hr _ _).keep kp kr, gl7, kb, kr, by simp; omega, fun u => ?_, fun u => ?_⟩⟩
      · omega
      · rw [List.mem_append, hst]
        simp
        constructor
        · rintro (⟨h1, h2⟩ | rfl)
          · exact ⟨by omega, h2⟩
          · exact ⟨by omega, hfree⟩
        · rintro ⟨h1, h2⟩
          rcases Nat.lt_or_ge u v with h | h
          · exact .inl ⟨h, h2⟩
          · exact .inr (by omega)
      · by_cases e : u = v
        · rw [e, upd_same]; simp [hfree]
        · rw [upd_ne _ _ e, hre]
          constructor
          · rintro ⟨h1, h2⟩; exact ⟨by omega, h2⟩
          · rintro ⟨h1, h2⟩; exact ⟨by omega, h2⟩
    · have nf : by_ v ≠ -1 := by omega
      refine ⟨_, ?_, (hI _ _ _).2 ⟨v + 1, re, st, x, bk, by rw [w1], by omega, rfl, l1, b1, r1, gl, k1, k2, by omega, fun u => ?_, fun u => ?_⟩⟩
      · omega
      · rw [hst]
        constructor
        · rintro ⟨h1, h2⟩; exact ⟨by omega, h2⟩
        · rintro ⟨h1, h2⟩
          refine ⟨?_, h2⟩
          by_cases e : u = v
          · exact (nf (e ▸ h2)).elim
          · omega
      · rw [hre]
        constructor
        · rintro ⟨h1, h2⟩; exact ⟨by omega, h2⟩
        · rintro ⟨h1, h2⟩
          refine ⟨?_, h2⟩
          by_cases e : u = v
          · exact (nf (e ▸ h2)).elim
          · omega
  · have hvl : v = g.left := by omega
    subst hvl
    have rch : Rch g by_ DL re st fun _ => False := by
      refine ⟨fun u hu h => (hre u).2 ⟨hu, h⟩, fun u hu h => hfr u hu ((hre u).1 h).2, fun w h1 h2 h => ?_, fun u hu => ?_, fun i hi h => .inr (.inl ((hst _).2 ((hre _).1 h)))⟩
      · have := (hre w).1 h; omega
      · have := (hst u).1 hu
        exact ⟨this.1, (hre u).2 this⟩
    have hms : 2 * unseen g.n re + st.length ≤ 3 * g.n := by
      have : unseen g.n re ≤ g.n := by
        have : ∀ n, unseen n re ≤ n := fun n => by
          induction n with
          | zero => simp [unseen]
          | succ n ih => simp only [unseen]; split <;> omega
        exact this _
      omega
    clear hre hst hsl hI hI1 I hX1 hX2 hge hv
    obtain ⟨I, hI⟩ : ∃ I : Nat → List Value → Heap → Prop, ∀ m xs h1, I m xs h1 ↔ ∃ (re : Nat → Bool) (st : List Nat) (x : Value) (bk : Option Nat), xs = [x] ∧ m = 2 * unseen g.n re + st.length ∧ m ≤ 3 * g.n ∧ Le S h1 ∧ IA h1 bb g.n by_ ∧ BA h1 br g.n re ∧
        GL 3 S h1 False x st bk ∧ bk ≠ some bb ∧ bk ≠ some br ∧ Rch g by_ DL re st fun _ => False := ⟨_, fun _ _ _ => Iff.rfl⟩
    refine ⟨I, ⟨_, (hI _ _ _).2 ⟨re, st, x, bk, rfl, rfl, hms, l1, b1, r1, gl, k1, k2, rch⟩⟩, ?_⟩
    clear l1 b1 r1 gl k1 k2 rch hms
    intro m X h1 hI1
    obtain ⟨re, st, x, bk, hX, hm, hms, l1, b1, r1, gl, k1, k2, rch⟩ := (hI _ _ _).1 hI1
    simp only [List.cons.injEq, and_true] at hX
    simp only [hX]
    obtain ⟨A, cx, hxs, hcx⟩ := gl.shape
    rw [hxs]
    simp
    refine ⟨fun hlt => ?_, fun hge => ?_⟩
    · -- one node is taken from the stack
      obtain ⟨st0, v, rfl⟩ : ∃ st0 v, st = st0 ++ [v] := by
        rcases List.eq_nil_or_concat st with rfl | ⟨a, b, rfl⟩
        · simp at hlt
        · exact ⟨a, b, by simp⟩
      obtain ⟨b, c, rfl, hx', hc, hcell, gl0⟩ := gl.pop
      rw [hxs] at hx'
      simp only [Value.slice.injEq] at hx'
      obtain ⟨rfl, _, rfl⟩ := hx'
      obtain ⟨hvl, hvr⟩ := rch.mem v (by simp)
      have hvl' : (v : Int) < (g.left : Int) := by omega
      have hvn : v < g.n := by omega
      obtain ⟨xr, ex, ⟨Ar, cr, rfl, hxc⟩⟩ := a.row v hvl
      have hll := a.len v hvl
      simp at hm
      have w0' : IntKind.i64.wrap (st0.length : Int) = (st0.length : Int) := by rw [wrap_in (by omega) (by omega)]
      have hlec : st0.length ≤ cx := by omega
      have hlt1 : (st0.length : Int) < (st0.length : Int) + 1 := by omega
      simp [w0', hlt1, hcell, hlec, l1.cell _ _ _ e3, hvl', hvl, l1.cell _ _ _ ex]
      obtain ⟨M0, hM0⟩ : ∃ M0, M0 = m := ⟨_, rfl⟩
      obtain ⟨I2, hI2⟩ : ∃ I2 : Nat → List Value → Heap → Prop, ∀ m xs h1, I2 m xs h1 ↔ ∃ (j : Nat) (re : Nat → Bool) (st : List Nat) (x : Value) (bk : Option Nat), xs = [.int .i64 j, x] ∧ j ≤ (outL v).length ∧ m = (outL v).length - j ∧ 2 * unseen g.n re + st.length + 1 ≤ 3 * g.n ∧
          2 * unseen g.n re + st.length < M0 ∧ Le S h1 ∧ IA h1 bb g.n by_ ∧ BA h1 br g.n re ∧
          GL 3 S h1 False x st bk ∧ bk ≠ some bb ∧ bk ≠ some br ∧ re v = true ∧ Rch g by_ DL re st fun i => ∃ j', j ≤ j' ∧ (outL v)[j']? = some i := ⟨_, fun _ _ _ => Iff.rfl⟩
      refine ⟨I2, ⟨_, (hI2 _ _ _).2 ⟨0, re, st0, _, some b, rfl, by omega, rfl, by omega, by omega, l1, b1, r1, gl0, k1, k2, hvr, rch.pop.sub fun i hi hL => ?_⟩⟩, ?_⟩
      · obtain ⟨j, hj, e⟩ := List.mem_iff_getElem.1 ((a.out v hvl i).2 ⟨hi, hL⟩)
        exact .inr ⟨j, by omega, by rw [List.getElem?_eq_getElem hj, e]⟩
      clear l1 b1 r1 gl gl0 k1 k2 rch hvr hlec hcell hcx hc hlt hxs hX hI1
      intro m2 X2 h1 hI1
      obtain ⟨j, re, st, x, bk, hX, hj, rfl, hms2, hM2, l1, b1, r1, gl, k1, k2, hvr, rch⟩ := (hI2 _ _ _).1 hI1
      simp only [List.cons.injEq, and_true] at hX
      obtain ⟨hX1, hX2⟩ := hX
      simp only [hX1, hX2]
      have w1 : IntKind.i64.wrap ((j : Int) + 1) = ((j + 1 : Nat) : Int) := by rw [wrap_in (by omega) (by omega)]; rfl
      simp
      refine ⟨fun hlt => ?_, fun hge => ?_⟩
      · obtain ⟨b', o', rfl, hcell⟩ := hxc j _ (List.getElem?_eq_getElem hlt)
        generalize hi : (outL v)[j] = i at hcell
        have hi' : (outL v)[j]? = some i := by rw [List.getElem?_eq_getElem hlt, hi]
        obtain ⟨him, hiL⟩ := (a.out v hvl i).1 (by rw [← hi]; exact List.getElem_mem hlt)
        have hr := g.hr i him
        have hRn : ((g.R i : Nat) : Int) < (g.n : Int) := by omega
        have eo : (g.L i : Int) + g.R i - v = g.R i := by omega
        have nxt : ∀ (h5 : Heap) (re' : Nat → Bool) (st' : List Nat) (x' : Value) (bk' : Option Nat), Le S h5 → IA h5 bb g.n by_ → BA h5 br g.n re' → GL 3 S h5 False x' st' bk' → bk' ≠ some bb → bk' ≠ some br →
            2 * unseen g.n re' + st'.length ≤ 2 * unseen g.n re + st.length → re' v = true → re' (g.R i) = true → (Rch g by_ DL re' st' fun i => ∃ j', j ≤ j' ∧ (outL v)[j']? = some i) →
            ∃ m', m' < (outL v).length - j ∧ I2 m' [.int .i64 (IntKind.i64.wrap ((j : Int) + 1)), x'] h5 := by
          intro h5 re' st' x' bk' y1 y2 y3 y4 y5 y6 y7 y8 y9 y10
          refine ⟨_, ?_, (hI2 _ _ _).2 ⟨j + 1, re', st', x', bk', by rw [w1], by omega, rfl, by omega, by omega, y1, y2, y3, y4, y5, y6, y8, y10.sub fun i' hi2 h => ?_⟩⟩
          · omega
          · obtain ⟨j', h1, h2⟩ := h
            by_cases e : j' = j
            · subst e
              rw [hi'] at h2
              cases h2
              exact .inl y9
            · exact .inr ⟨j', by omega, h2⟩
        simp [hlt, l1.cell _ _ _ hcell]
        refine CALL_mk en86 (other_p a l1 him (by omega)) ?_
        rintro e h4 ⟨rfl, rfl⟩
        rw [eo]
        simp [hr.2, r1.cell _ hr.2, ifV_bool, r1.can hr.2]
        refine ⟨fun hs => nxt h4 re st x bk l1 b1 r1 gl k1 k2 (Nat.le_refl _) hvr hs rch, fun hs => ?_⟩
        obtain ⟨k, hk, hbk, hkR, hkD⟩ := rch.mate dead him (by rw [hiL]; exact hvr)
        have hLk := g.hl k hk
        have eo2 : (g.L k : Int) + g.R k - g.R i = g.L k := by rw [hkR]; omega
        have hLn : g.L k < g.n := by omega
        have l5 := l1.set_fresh fr (g.R i) (.bool true)
        have b5 := b1.other hbbr (i := g.R i) (.bool true)
        have z5 := r1.set (i := g.R i) true
        have gl5 : GL 3 S (h4.set br (g.R i) (.bool true)) False x st bk := gl.keep ((Keep.refl (fun b => b ≠ br) h4).set (fun h => h rfl) _ _) fun b hb e => k2 (by rw [hb, e])
        have us : unseen g.n (upd re (g.R i) true) < unseen g.n re := unseen_lt _ _ _ (fun q _ hq => by
          by_cases e : q = g.R i
          · rw [e, upd_same]
          · rw [upd_ne _ _ e]; exact hq) hr.2 hs (upd_same _ _ _)
        generalize h4.set br (g.R i) (.bool true) = h5 at l5 b5 z5 gl5
        simp [l5.cell _ _ _ e4, hRn, b5.cell _ hr.2]
        rw [hbk]
        refine CALL_mk en86 (other_p a l5 hk hr.2) ?_
        rintro e h6 ⟨rfl, rfl⟩
        rw [eo2]
        simp [hLn, z5.cell _ hLn, ifV_bool, z5.can hLn]
        have hne : g.L k ≠ g.R i := by omega
        rw [upd_ne _ _ hne]
        refine ⟨fun hre => ?_, fun hre => ?_⟩
        · intro r hrr
          have l7 := l5.set_fresh fr (g.L k) (.bool true)
          have b7 := b5.other hbbr (i := g.L k) (.bool true)
          have z7 := z5.set (i := g.L k) true
          have gl7 : GL 3 S (h6.set br (g.L k) (.bool true)) False x st bk := gl5.keep ((Keep.refl (fun b => b ≠ br) h6).set (fun h => h rfl) _ _) fun b hb e => k2 (by rw [hb, e])
          have us2 : unseen g.n (upd (upd re (g.R i) true) (g.L k) true) ≤ unseen g.n (upd re (g.R i) true) := unseen_le _ _ _ (fun q _ hq => by
            by_cases e : q = g.L k
            · rw [e, upd_same]
            · rw [upd_ne _ _ e]; exact hq)
          generalize h6.set br (g.L k) (.bool true) = h7 at l7 b7 z7 gl7 hrr
          have gl8 := gl7.keep ((Keep.refl (fun _ => True) h7).new hrr #[.int .i64 (g.L k)] 3) (fun _ _ => trivial)
          refine AP_push (i := g.L k) el_26 gl8 (l7.new hrr _ _) (by omega) (by simp) ?_
          intro x' h9 bk' gl9 l9 _ hbk' kp
          have kb := ne_push hrr k1 b7.info hbk'
          have kr := ne_push hrr k2 z7.info hbk'
          refine nxt h9 _ _ x' bk' l9 ((b7.new hrr _ _).keep kp kb) ((z7.new hrr _ _).keep kp kr) gl9 kb kr (by simp; omega) ?_ ?_ (rch.new him hk hbk hkR hkD)
          · by_cases e : v = g.L k
            · rw [e, upd_same]
            · rw [upd_ne _ _ e, upd_ne _ _ (by omega)]; exact hvr
          · rw [upd_ne _ _ hne.symm, upd_same]
        · exact nxt h6 _ st x bk l5 b5 z5 gl5 k1 k2 (by omega) (by rw [upd_ne _ _ (by omega)]; exact hvr) (upd_same _ _ _) (rch.old him hk hbk hkR hre)
      · refine ⟨_, ?_, (hI _ _ _).2 ⟨re, st, x, bk, rfl, rfl, by omega, l1, b1, r1, gl, k1, k2, rch.sub fun i hi h => ?_⟩⟩
        · omega
        · obtain ⟨j', h1, h2⟩ := h
          have := (List.getElem?_eq_some_iff.1 h2).1
          omega
    · have hst : st = [] := by
        cases st with
        | nil => rfl
        | cons _ _ => simp at hge
      subst hst
      obtain ⟨I3, hI3⟩ : ∃ I3 : Nat → List Value → Heap → Prop, ∀ m xs h1, I3 m xs h1 ↔ ∃ (v : Nat) (x : Value) (bk : Option Nat), xs = [.int .i64 v, x] ∧ v ≤ g.n ∧ m = g.n - v ∧ Le S h1 ∧ BA h1 br g.n re ∧ GL 3 S h1 False x (told g re v) bk ∧ bk ≠ some br := ⟨_, fun _ _ _ => Iff.rfl⟩
      refine ⟨I3, ⟨_, (hI3 _ _ _).2 ⟨0, _, none, rfl, by omega, rfl, l1, r1, GL.nil _ _ _ _, by simp⟩⟩, ?_⟩
      clear l1 b1 r1 gl k1 k2 hms hm hX hxs hI1
      intro m X h1 hI1
      obtain ⟨v, x, bk, hX, hv, rfl, l1, r1, gl, k2⟩ := (hI3 _ _ _).1 hI1
      simp only [List.cons.injEq, and_true] at hX
      obtain ⟨hX1, hX2⟩ := hX
      simp only [hX1, hX2]
      simp
      refine ⟨fun hlt => ?_, fun hge => ?_⟩
      · have hvn' : (v : Int) < (g.n : Int) := by omega
        have w1 : IntKind.i64.wrap ((v : Int) + 1) = ((v + 1 : Nat) : Int) := by rw [wrap_in (by omega) (by omega)]; rfl
        have ht : (told g re v).length ≤ v := by
          have := List.length_filter_le (fun x => re x != decide (x < g.left)) (List.range v)
          simpa [told] using this
        simp [hlt, hvn', r1.cell v hlt, l1.cell _ _ _ g2, ifV_bool]
        refine ⟨fun hne => ?_, fun heq => ?_⟩
        · intro r hr
          have gl6 := gl.keep ((Keep.refl (fun _ => True) h1).new hr #[.int .i64 v] 3) (fun _ _ => trivial)
          refine AP_push (i := v) el_26 gl6 (l1.new hr _ _) (by omega) (by simp) ?_
          intro x' h7 bk' gl7 l7 _ hbk' kp
          have kr := ne_push hr k2 r1.info hbk'
          refine ⟨_, ?_, (hI3 _ _ _).2 ⟨v + 1, x', bk', by rw [w1], by omega, rfl, l7, (r1.new hr _ _).keep kp kr, ?_, kr⟩⟩
          · omega
          · rw [told_succ, if_pos hne]; exact gl7
        · refine ⟨_, ?_, (hI3 _ _ _).2 ⟨v + 1, x, bk, by rw [w1], by omega, rfl, l1, r1, ?_, k2⟩⟩
          · omega
          · rw [told_succ, if_neg (by simpa using heq), List.append_nil]; exact gl
      · have hvn : v = g.n := by omega
        subst hvn
        exact ⟨l1, _, ⟨bk, gl⟩, fun ml h1 h2 => rch.solved hM h1 h2⟩

end Go.Proofs.Ythchjolcjicpgaa
