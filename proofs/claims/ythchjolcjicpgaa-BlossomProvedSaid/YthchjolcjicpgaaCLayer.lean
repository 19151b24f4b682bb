/- The contract of the layers (bimatch's kind 2). -/
import Derived.Test.YthchjolcjicpgaaCTry
import Derived.Test.YthchjolcjicpgaaCSimple
import Derived.Test.YthchjolcjicpgaaMPair3
namespace Go.Proofs.Ythchjolcjicpgaa
open Go.HW Pair

/-- The static heap of one phase. -/
def phS (S : Heap) (q bl bn n : Nat) : Heap := (S.set q 1 (.slice (some ⟨bl, 0, none⟩) n n)).set q 2 (.slice (some ⟨bn, 0, none⟩) n n)

theorem phS_le {S : Heap} {q : Nat} (q1 : S.cell q 1 = none) (q2 : S.cell q 2 = none) (bl bn n : Nat) : Le S (phS S q bl bn n) := ⟨fun b i x hx => by
  unfold phS
  by_cases e : b = q
  · subst e
    simp only [set_cell_here]
    by_cases e2 : i = 2
    · subst e2; rw [q2] at hx; cases hx
    · rw [if_neg e2]
      by_cases e1 : i = 1
      · subst e1; rw [q1] at hx; cases hx
      · rw [if_neg e1]; exact hx
  · rw [set_cell_nb _ _ _ _ e, set_cell_nb _ _ _ _ e]; exact hx, fun _ _ h => h⟩

theorem phS_fresh {S : Heap} {q b : Nat} (f : S.fresh b) (hne : b ≠ q) (bl bn n : Nat) : (phS S q bl bn n).fresh b := fresh_set (fresh_set f hne) hne

/-- What the layers leave. -/
structure LayR (S : Heap) (q bb : Nat) (g : G) (by_ : Nat → Int) (found : Bool) (h' : Heap) (bl bn : Nat) (lev : Nat → Int) : Prop where
  le : Le (phS S q bl bn g.n) h'
  fl : S.fresh bl
  fn : S.fresh bn
  ne1 : bb ≠ bl
  ne2 : bb ≠ bn
  ne3 : bl ≠ bn
  lq : bl ≠ q
  nq : bn ≠ q
  hb : IA h' bb g.n by_
  hl : IA h' bl g.n lev
  hn : IA h' bn g.n fun _ => 0
  lay : Layers g by_ lev
  no : found = false → Best g by_ g.left
  yes : found = true → ∃ i, i < g.m ∧ 0 ≤ lev (g.L i) ∧ by_ (g.R i) = -1

theorem layer_c {S h : Heap} {p bo bb q : Nat} {g : G} {es : List RE} {outL : Nat → List Nat} {by_ : Nat → Int} (a : PS S p bo bb g es outL) (q0 : S.cell q 0 = some (.pointer (some ⟨p, 0, none⟩)))
    (q1 : S.cell q 1 = none) (q2 : S.cell q 2 = none) (qi : S.info q = some (87, 3)) (l : Le S h) (fb : S.fresh bb) (hb : IA h bb g.n by_) (hM : Pair.M g by_) :
    HCalls Try.prog 159 #[.pointer (some ⟨q, 0, none⟩)] h fun e h' => ∃ found, e = .returned (.bool found) ∧ ∃ bl bn lev, LayR S q bb g by_ found h' bl bn lev := by
  apply H159
  obtain ⟨c3, e3⟩ := a.c3
  obtain ⟨c4, e4⟩ := a.c4
  have g0 := a.pg.c0
  have g2 := a.pg.c2
  have en_le := a.pg.small
  have hn := g.hn
  simp only [F159, JN]
  simp [-st_26, l.cell _ _ _ q0, l.cell _ _ _ g0, ms_26 g.n (by omega) (by omega)]
  intro bl hbl
  have hql : q ≠ bl := hbl.nei (l.info _ _ qi)
  have hbbl : bb ≠ bl := hbl.nei hb.info
  have fl := hbl.le l
  have hbbq : bb ≠ q := (fb.nei qi).symm
  obtain ⟨h1, hh1⟩ : ∃ h1, h1 = (h.new bl (zrow #[.int .i64 0] g.n) 3).set q 1 (.slice (some ⟨bl, 0, none⟩) g.n g.n) := ⟨_, rfl⟩
  have st1 : stV T 26 (.pointer (some ⟨q, 1, none⟩)) (.slice (some ⟨bl, 0, none⟩) g.n g.n) (h.new bl (zrow #[.int .i64 0] g.n) 3) = some h1 := by
    rw [hh1]; simp [hql, can_info (l.info _ _ qi)]
  have l1 : Le (S.set q 1 (.slice (some ⟨bl, 0, none⟩) g.n g.n)) h1 := by rw [hh1]; exact (l.new hbl _ _).sets _ _ _
  have lS1 : Le S (S.set q 1 (.slice (some ⟨bl, 0, none⟩) g.n g.n)) := Le.set_none q1 _
  have b1 : IA h1 bb g.n by_ := by rw [hh1]; exact (hb.new hbl _ _).other hbbq _
  have z1 : IA h1 bl g.n fun _ => 0 := by rw [hh1]; exact (GA.fresh (Value.int .i64) 3 h bl g.n 0).other hql.symm _
  rw [st1]
  clear hh1 st1
  have lS := lS1.trans l1
  simp [-st_26, lS.cell _ _ _ q0, lS.cell _ _ _ g0, ms_26 g.n (by omega) (by omega)]
  intro bn hbn
  have hqn : q ≠ bn := hbn.nei (lS.info _ _ qi)
  have hbbn : bb ≠ bn := hbn.nei b1.info
  have hln : bl ≠ bn := hbn.nei z1.info
  have fn := hbn.le lS
  obtain ⟨h2, hh2⟩ : ∃ h2, h2 = (h1.new bn (zrow #[.int .i64 0] g.n) 3).set q 2 (.slice (some ⟨bn, 0, none⟩) g.n g.n) := ⟨_, rfl⟩
  have st2 : stV T 26 (.pointer (some ⟨q, 2, none⟩)) (.slice (some ⟨bn, 0, none⟩) g.n g.n) (h1.new bn (zrow #[.int .i64 0] g.n) 3) = some h2 := by
    rw [hh2]; simp [hqn, can_info (lS.info _ _ qi)]
  have l2 : Le (phS S q bl bn g.n) h2 := by rw [hh2]; exact (l1.new hbn _ _).sets _ _ _
  have b2 : IA h2 bb g.n by_ := by rw [hh2]; exact (b1.new hbn _ _).other hbbq _
  have z2 : IA h2 bl g.n fun _ => 0 := by rw [hh2]; exact (z1.new hbn _ _).other hql.symm _
  have n2 : IA h2 bn g.n fun _ => 0 := by rw [hh2]; exact (GA.fresh (Value.int .i64) 3 h1 bn g.n 0).other hqn.symm _
  rw [st2]
  clear hh2 st2 l1 lS1 lS b1 z1 hb
  have lP := phS_le (S := S) q1 q2 bl bn g.n
  have pfl := phS_fresh fl hql.symm bl bn g.n
  have pfn := phS_fresh fn hqn.symm bl bn g.n
  have pfb := phS_fresh fb hbbq bl bn g.n
  have P1 : (phS S q bl bn g.n).cell q 1 = some (.slice (some ⟨bl, 0, none⟩) g.n g.n) := by simp [phS]
  have a := a.le lP
  have q0 := lP.cell _ _ _ q0
  have e3 := lP.cell _ _ _ e3
  have e4 := lP.cell _ _ _ e4
  have g0 := lP.cell _ _ _ g0
  have g2 := lP.cell _ _ _ g2
  have fin : ∀ (found : Bool) (h' : Heap) (lev : Nat → Int), Le (phS S q bl bn g.n) h' → IA h' bb g.n by_ → IA h' bl g.n lev → IA h' bn g.n (fun _ => 0) → Layers g by_ lev → (found = false → Best g by_ g.left) →
      (found = true → ∃ i, i < g.m ∧ 0 ≤ lev (g.L i) ∧ by_ (g.R i) = -1) → LayR S q bb g by_ found h' bl bn lev := fun found h' lev x1 x2 x3 x4 x5 x6 x7 =>
    ⟨x1, fl, fn, hbbl, hbbn, hln, hql.symm, hqn.symm, x2, x3, x4, x5, x6, x7⟩
  generalize phS S q bl bn g.n = Q at *
  simp [l2.cell _ _ _ P1]
  obtain ⟨I, hI⟩ : ∃ I : Nat → List Value → Heap → Prop, ∀ m xs h1, I m xs h1 ↔ ∃ (v : Nat) (lev : Nat → Int) (ll : List Nat) (x : Value) (bk : Option Nat), xs = [.int .i64 v, x] ∧ v ≤ g.n ∧ m = g.n - v ∧ Le Q h1 ∧ IA h1 bb g.n by_ ∧ IA h1 bl g.n lev ∧ IA h1 bn g.n (fun _ => 0) ∧
      GL 3 Q h1 False x ll bk ∧ bk ≠ some bb ∧ bk ≠ some bl ∧ bk ≠ some bn ∧ Ini g by_ lev ll v := ⟨_, fun _ _ _ => Iff.rfl⟩
  refine ⟨I, ⟨_, (hI _ _ _).2 ⟨0, _, [], _, none, rfl, by omega, rfl, l2, b2, z2, n2, GL.nil _ _ _ _, by simp, by simp, by simp, Ini.none _ _ _⟩⟩, ?_⟩
  intro m X h3 hI3
  obtain ⟨v, lev, ll, x, bk, hX, hv, rfl, l3, b3, z3, n3, gl, k1, k2, k3, ini⟩ := (hI _ _ _).1 hI3
  simp only [List.cons.injEq, and_true] at hX
  obtain ⟨hX1, hX2⟩ := hX
  simp only [hX1, hX2]
  simp
  refine ⟨fun hlt => ?_, fun hge => ?_⟩
  · have hvn' : (v : Int) < (g.n : Int) := by omega
    have l4 := l3.set_fresh pfl v (.int .i64 (-1))
    have b4 := b3.other hbbl (i := v) (.int .i64 (-1))
    have z4 := z3.set (i := v) (-1)
    have n4 := n3.other hln.symm (i := v) (.int .i64 (-1))
    have gl4 : GL 3 Q (h3.set bl v (.int .i64 (-1))) False x ll bk := gl.keep ((Keep.refl (fun b => b ≠ bl) h3).set (fun h => h rfl) v _) fun b hb e => k2 (by rw [hb, e])
    have w1 : IntKind.i64.wrap ((v : Int) + 1) = ((v + 1 : Nat) : Int) := by rw [wrap_in (by omega) (by omega)]; rfl
    simp [l3.cell _ _ _ P1, hvn', z3.can hlt]
    generalize h3.set bl v (.int .i64 (-1)) = h4 at l4 b4 z4 n4 gl4
    simp [l4.cell _ _ _ q0, l4.cell _ _ _ g2, l4.cell _ _ _ e4, hvn', b4.cell v hlt, l4.cell _ _ _ P1, z4.can hlt]
    have pass : ¬ (v < g.left ∧ by_ v = -1) → ∃ m', m' < g.n - v ∧ I m' [.int .i64 (IntKind.i64.wrap ((v : Int) + 1)), x] h4 := fun hc =>
      ⟨_, by omega, (hI _ _ _).2 ⟨v + 1, _, ll, x, bk, by rw [w1], by omega, rfl, l4, b4, z4, n4, gl4, k1, k2, k3, ini.pass hc⟩⟩
    refine ⟨fun hvl => ⟨fun hneg => ?_, fun hpos => pass (by omega)⟩, fun hvl => pass (by omega)⟩
    have hfree : by_ v = -1 := by
      rcases hM.some v hlt with h | ⟨k, _, h, _⟩
      · exact h
      · omega
    intro r hr
    have l5 := l4.set_fresh pfl v (.int .i64 0)
    have b5 := b4.other hbbl (i := v) (.int .i64 0)
    have z5 := z4.set (i := v) 0
    have n5 := n4.other hln.symm (i := v) (.int .i64 0)
    have gl5 : GL 3 Q (h4.set bl v (.int .i64 0)) False x ll bk := gl4.keep ((Keep.refl (fun b => b ≠ bl) h4).set (fun h => h rfl) v _) fun b hb e => k2 (by rw [hb, e])
    generalize h4.set bl v (.int .i64 0) = h5 at l5 b5 z5 n5 gl5 hr
    have l6 := l5.new hr #[.int .i64 v] 3
    have gl6 := gl5.keep ((Keep.refl (fun _ => True) h5).new hr #[.int .i64 v] 3) (fun _ _ => trivial)
    have hlen : ll.length < 1000000000 := by
      have := nodup_le g.left ll ini.nodup fun x hx => ((ini.mem x).1 hx).2.1
      omega
    refine AP_push (i := v) el_26 gl6 l6 hlen (by simp) ?_
    intro x' h7 bk' gl7 l7 _ hbk' kp
    have ne : ∀ b, b ≠ r → bk ≠ some b → (∀ x, h5.info b = some x → bk' ≠ some b) := fun b h1 h2 x hx => by
      rcases hbk' with rfl | ⟨r', rfl, hr'⟩
      · exact h2
      · have : (h5.new r #[.int .i64 v] 3).info b = some x := by rw [new_info_ne _ h1]; exact hx
        exact fun e => hr'.nei this (by cases e; rfl)
    have kb := ne bb (hr.nei b5.info) k1 _ b5.info
    have kl := ne bl (hr.nei z5.info) k2 _ z5.info
    have kn := ne bn (hr.nei n5.info) k3 _ n5.info
    refine ⟨_, ?_, (hI _ _ _).2 ⟨v + 1, _, _, x', bk', by rw [w1], by omega, rfl, l7, (b5.new hr _ _).keep kp kb, (z5.new hr _ _).keep kp kl, (n5.new hr _ _).keep kp kn, gl7, kb, kl, kn, by rw [upd_upd]; exact ini.push hvl hfree⟩⟩
    omega
  · have hvn : v = g.n := by omega
    subst hvn
    have bfs := ini.bfs
    clear ini hI hI3 I z2 n2 b2 l2
    obtain ⟨I, hI⟩ : ∃ I : Nat → List Value → Heap → Prop, ∀ m xs h1, I m xs h1 ↔ ∃ (nn : Nat) (lev : Nat → Int) (ll : List Nat) (x : Value) (bk : Option Nat) (fd : Bool), xs = [.int .i64 nn, x, .bool fd] ∧ nn ≤ ll.length ∧ m = g.left - nn ∧ Le Q h1 ∧ IA h1 bb g.n by_ ∧ IA h1 bl g.n lev ∧ IA h1 bn g.n (fun _ => 0) ∧
        GL 3 Q h1 False x ll bk ∧ bk ≠ some bb ∧ bk ≠ some bl ∧ bk ≠ some bn ∧ Bfs g by_ lev ll fd ∧ ∀ (j y : Nat), j < nn → ll[j]? = some y → ∀ i, i < g.m → g.L i = y → Okk g by_ lev fd i := ⟨_, fun _ _ _ => Iff.rfl⟩
    refine ⟨I, ⟨_, (hI _ _ _).2 ⟨0, lev, ll, x, bk, false, rfl, by omega, rfl, l3, b3, z3, n3, gl, k1, k2, k3, bfs, fun j y h => by omega⟩⟩, ?_⟩
    clear l3 b3 z3 n3 gl k1 k2 k3 bfs hX1 hX2 X h3 hv
    intro m X h3 hI3
    obtain ⟨nn, lev, ll, x, bk, fd, hX, hnn, rfl, l3, b3, z3, n3, gl, k1, k2, k3, bfs, done⟩ := (hI _ _ _).1 hI3
    simp only [List.cons.injEq, and_true] at hX
    obtain ⟨hX1, hX2, hX3⟩ := hX
    simp only [hX1, hX2, hX3]
    have hlen := bfs.len
    obtain ⟨A, cx, hxs, hcx⟩ := gl.shape
    obtain ⟨A', c', hxs', hcell⟩ := gl.il
    rw [hxs] at hxs'
    cases hxs'
    rw [hxs]
    simp
    refine ⟨fun hlt => ?_, fun hge => ?_⟩
    · obtain ⟨b, o, rfl, hc⟩ := hcell nn _ (List.getElem?_eq_getElem hlt)
      generalize hve : ll[nn] = v at hc
      have hv' : ll[nn]? = some v := by rw [List.getElem?_eq_getElem hlt, hve]
      have hvm : v ∈ ll := List.mem_of_getElem? hv'
      obtain ⟨hvl, hlv0⟩ := bfs.inl v hvm
      have hvl' : (v : Int) < (g.left : Int) := by omega
      have hvn : v < g.n := by omega
      obtain ⟨c3', e3'⟩ := a.c3
      obtain ⟨xr, ex, ⟨Ar, cr, rfl, hxc⟩⟩ := a.row v hvl
      have hll := a.len v hvl
      simp [hlt, hc, l3.cell _ _ _ q0, l3.cell _ _ _ e3, hvl', l3.cell _ _ _ ex]
      obtain ⟨I2, hI2⟩ : ∃ I2 : Nat → List Value → Heap → Prop, ∀ m xs h1, I2 m xs h1 ↔ ∃ (j : Nat) (lev : Nat → Int) (ll : List Nat) (x : Value) (bk : Option Nat) (fd : Bool), xs = [.int .i64 j, x, .bool fd] ∧ j ≤ (outL v).length ∧ m = (outL v).length - j ∧ Le Q h1 ∧ IA h1 bb g.n by_ ∧ IA h1 bl g.n lev ∧ IA h1 bn g.n (fun _ => 0) ∧
          GL 3 Q h1 False x ll bk ∧ bk ≠ some bb ∧ bk ≠ some bl ∧ bk ≠ some bn ∧ Bfs g by_ lev ll fd ∧ ll[nn]? = some v ∧ (∀ (j y : Nat), j < nn → ll[j]? = some y → ∀ i, i < g.m → g.L i = y → Okk g by_ lev fd i) ∧
          ∀ (j' i : Nat), j' < j → (outL v)[j']? = some i → Okk g by_ lev fd i := ⟨_, fun _ _ _ => Iff.rfl⟩
      refine ⟨I2, ⟨_, (hI2 _ _ _).2 ⟨0, lev, ll, _, bk, fd, by rw [hxs]; rfl, by omega, rfl, l3, b3, z3, n3, gl, k1, k2, k3, bfs, hv', done, fun j y h => by omega⟩⟩, ?_⟩
      clear l3 b3 z3 n3 gl k1 k2 k3 bfs hX1 hX2 hX3 X h3 done hvm hlv0 hcx hcell hc hve hlt hnn hlen hI3 hxs
      intro m2 X h3 hI3
      obtain ⟨j, lev, ll, x, bk, fd, hX, hj, rfl, l3, b3, z3, n3, gl, k1, k2, k3, bfs, hv', done, dj⟩ := (hI2 _ _ _).1 hI3
      simp only [List.cons.injEq, and_true] at hX
      obtain ⟨hX1, hX2, hX3⟩ := hX
      simp only [hX1, hX2, hX3]
      have w1 : IntKind.i64.wrap ((j : Int) + 1) = ((j + 1 : Nat) : Int) := by rw [wrap_in (by omega) (by omega)]; rfl
      have hlen := bfs.len
      have hvm : v ∈ ll := List.mem_of_getElem? hv'
      obtain ⟨_, hlv0⟩ := bfs.inl v hvm
      simp
      refine ⟨fun hlt => ?_, fun hge => ?_⟩
      · obtain ⟨b, o, rfl, hcell⟩ := hxc j _ (List.getElem?_eq_getElem hlt)
        generalize hi : (outL v)[j] = i at hcell
        have hi' : (outL v)[j]? = some i := by rw [List.getElem?_eq_getElem hlt, hi]
        obtain ⟨him, hiL⟩ := (a.out v hvl i).1 (by rw [← hi]; exact List.getElem_mem hlt)
        have hr := g.hr i him
        have hRn : ((g.R i : Nat) : Int) < (g.n : Int) := by omega
        have eo : (g.L i : Int) + g.R i - v = g.R i := by omega
        have nxt : ∀ (h5 : Heap) (lev' : Nat → Int) (ll' : List Nat) (x' : Value) (bk' : Option Nat) (fd' : Bool), Le Q h5 → IA h5 bb g.n by_ → IA h5 bl g.n lev' → IA h5 bn g.n (fun _ => 0) →
            GL 3 Q h5 False x' ll' bk' → bk' ≠ some bb → bk' ≠ some bl → bk' ≠ some bn → Bfs g by_ lev' ll' fd' → ll'[nn]? = some v → (∀ (j : Nat), j < nn → ll'[j]? = ll[j]?) → (fd = true → fd' = true) → (∀ x, x < g.left → 0 ≤ lev x → 0 ≤ lev' x) → Okk g by_ lev' fd' i →
            ∃ m', m' < (outL v).length - j ∧ I2 m' [.int .i64 (IntKind.i64.wrap ((j : Int) + 1)), x', .bool fd'] h5 := by
          intro h5 lev' ll' x' bk' fd' y1 y2 y3 y4 y5 y6 y7 y8 y9 y10 y11 y12 y13 y14
          refine ⟨_, ?_, (hI2 _ _ _).2 ⟨j + 1, lev', ll', x', bk', fd', by rw [w1], by omega, rfl, y1, y2, y3, y4, y5, y6, y7, y8, y9, y10, fun j' y hj' hy i hi hL => ?_, fun j' i' hj' hi2 => ?_⟩⟩
          · omega
          · rw [y11 j' hj'] at hy
            exact (done j' y hj' hy i hi hL).mono y12 y13
          · by_cases e : j' = j
            · subst e
              rw [hi'] at hi2
              cases hi2
              exact y14
            · exact (dj j' i' (by omega) hi2).mono y12 y13
        simp [hlt, l3.cell _ _ _ hcell, l3.cell _ _ _ q0, l3.cell _ _ _ e4]
        refine CALL_mk en86 (other_p a l3 him (by omega)) ?_
        rintro e h4 ⟨rfl, rfl⟩
        rw [eo]
        simp [Le.refl, hRn, b3.cell _ hr.2]
        intro _
        refine ⟨fun hneg => ?_, fun hpos => ?_⟩
        · have hfree : by_ (g.R i) = -1 := by
            rcases hM.some _ hr.2 with h | ⟨q, _, h, _⟩
            · exact h
            · omega
          exact nxt h4 lev ll x bk true l3 b3 z3 n3 gl k1 k2 k3 (bfs.see hvm him hiL hfree) hv' (fun _ _ => rfl) (fun _ => rfl) (fun _ _ h => h) (.inl ⟨hfree, rfl⟩)
        · obtain ⟨k, hk, hbk, hkR⟩ : ∃ k, k < g.m ∧ by_ (g.R i) = (k : Int) ∧ g.R k = g.R i := by
            rcases hM.some _ hr.2 with h | ⟨q, hq, h, h'⟩
            · omega
            · refine ⟨q, hq, h, h'.resolve_left fun e => ?_⟩
              have := g.hl q hq
              omega
          have hLk := g.hl k hk
          have eo2 : (g.L k : Int) + g.R k - g.R i = g.L k := by rw [hkR]; omega
          have hLn : ((g.L k : Nat) : Int) < (g.n : Int) := by omega
          simp [l3.cell _ _ _ q0]
          refine CALL_mk en86 (other_p a l3 him (by omega)) ?_
          rintro e h5 ⟨rfl, rfl⟩
          rw [eo]
          simp only [endR_ret]
          refine ⟨Le.refl _, fun _ => ?_⟩
          rw [hbk]
          refine CALL_mk en86 (other_p a l3 hk hr.2) ?_
          rintro e h6 ⟨rfl, rfl⟩
          rw [eo2]
          have hvn' : (v : Int) < (g.n : Int) := by omega
          have w2 : IntKind.i64.wrap (lev v + 1) = lev v + 1 := by
            have := bfs.at_ nn v hv'
            have : nn < ll.length := (List.getElem?_eq_some_iff.1 hv').1
            rw [wrap_in (by omega) (by omega)]
          simp [l3.cell _ _ _ P1, hLn, z3.cell (g.L k) (by omega), hvn', z3.cell v hvn, w2, z3.can (i := g.L k) (by omega)]
          intro _
          refine ⟨fun hneg => ?_, fun hnn => ?_⟩
          · have l5 := l3.set_fresh pfl (g.L k) (.int .i64 (lev v + 1))
            have b5 := b3.other hbbl (i := g.L k) (.int .i64 (lev v + 1))
            have z5 := z3.set (i := g.L k) (lev v + 1)
            have n5 := n3.other hln.symm (i := g.L k) (.int .i64 (lev v + 1))
            have gl5 : GL 3 Q (h6.set bl (g.L k) (.int .i64 (lev v + 1))) False x ll bk := gl.keep ((Keep.refl (fun b => b ≠ bl) h6).set (fun h => h rfl) _ _) fun b hb e => k2 (by rw [hb, e])
            intro _ r hrr
            generalize h6.set bl (g.L k) (.int .i64 (lev v + 1)) = h5 at l5 b5 z5 n5 gl5 hrr
            have l6 := l5.new hrr #[.int .i64 (g.L k)] 3
            have gl6 := gl5.keep ((Keep.refl (fun _ => True) h5).new hrr #[.int .i64 (g.L k)] 3) (fun _ _ => trivial)
            refine AP_push (i := g.L k) el_26 gl6 l6 (by omega) (by simp) ?_
            intro x' h7 bk' gl7 l7 _ hbk' kp
            have ne : ∀ b, b ≠ r → bk ≠ some b → (∀ x, h5.info b = some x → bk' ≠ some b) := fun b h1 h2 x hx => by
              rcases hbk' with rfl | ⟨r', rfl, hr'⟩
              · exact h2
              · have : (h5.new r #[.int .i64 (g.L k)] 3).info b = some x := by rw [new_info_ne _ h1]; exact hx
                exact fun e => hr'.nei this (by cases e; rfl)
            have kb := ne bb (hrr.nei b5.info) k1 _ b5.info
            have kl := ne bl (hrr.nei z5.info) k2 _ z5.info
            have kn := ne bn (hrr.nei n5.info) k3 _ n5.info
            have hnl : nn < ll.length := (List.getElem?_eq_some_iff.1 hv').1
            refine nxt h7 _ _ x' bk' fd l7 ((b5.new hrr _ _).keep kp kb) ((z5.new hrr _ _).keep kp kl) ((n5.new hrr _ _).keep kp kn) gl7 kb kl kn (bfs.push hv' him hiL hk hbk hkR hM hneg)
              (by rw [List.getElem?_append_left hnl]; exact hv') (fun j hj => List.getElem?_append_left (by omega)) id (fun y _ h => ?_) (.inr ⟨k, hk, hbk, hkR, by rw [upd_same]; omega⟩)
            by_cases e : y = g.L k
            · rw [e, upd_same]; omega
            · rw [upd_ne _ _ e]; exact h
          · exact nxt h6 lev ll x bk fd l3 b3 z3 n3 gl k1 k2 k3 bfs hv' (fun _ _ => rfl) id (fun _ _ h => h) (.inr ⟨k, hk, hbk, hkR, hnn⟩)
      · have hnl : nn < ll.length := (List.getElem?_eq_some_iff.1 hv').1
        have w2 : IntKind.i64.wrap ((nn : Int) + 1) = ((nn + 1 : Nat) : Int) := by rw [wrap_in (by omega) (by omega)]; rfl
        refine ⟨_, ?_, (hI _ _ _).2 ⟨nn + 1, lev, ll, x, bk, fd, by rw [w2], by omega, rfl, l3, b3, z3, n3, gl, k1, k2, k3, bfs, fun j' y hj' hy i hi hL => ?_⟩⟩
        · omega
        · by_cases e : j' = nn
          · subst e
            rw [hv'] at hy
            cases hy
            obtain ⟨j2, hj2, e⟩ := List.mem_iff_getElem.1 ((a.out v hvl i).2 ⟨hi, hL⟩)
            exact dj j2 i (by omega) (by rw [List.getElem?_eq_getElem hj2, e])
          · exact done j' y (by omega) hy i hi hL
    · have hall : ∀ x, x ∈ ll → ∀ i, i < g.m → g.L i = x → Okk g by_ lev fd i := fun x hx i hi hL => by
        obtain ⟨j, hj, e⟩ := List.mem_iff_getElem.1 hx
        exact done j x (by omega) (by rw [List.getElem?_eq_getElem hj, e]) i hi hL
      cases fd with
      | false => exact .inl ⟨rfl, bl, bn, lev, fin false h3 lev l3 b3 z3 n3 bfs.lay (fun _ => bfs.best hall) (fun h => by cases h)⟩
      | true => exact .inr ⟨rfl, bl, bn, lev, fin true h3 lev l3 b3 z3 n3 bfs.lay (fun h => by cases h) bfs.fnd⟩

end Go.Proofs.Ythchjolcjicpgaa
