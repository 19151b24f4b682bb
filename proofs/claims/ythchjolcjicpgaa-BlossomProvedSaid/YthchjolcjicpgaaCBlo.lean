/- blossom: the search in memory; contracts of other, mate, meet, mark. -/
import Derived.Test.YthchjolcjicpgaaFBlo
import Derived.Test.YthchjolcjicpgaaMBlo
import Derived.Test.YthchjolcjicpgaaWipe
import Derived.Test.YthchjolcjicpgaaQueue
namespace Go.Proofs.Ythchjolcjicpgaa
open Go.HW Blo

/-- A number that may be missing, as Go has it. -/
def oI : Option Nat → Int
  | some i => i
  | none => -1
@[simp] theorem oI_none : oI none = -1 := rfl
@[simp] theorem oI_some (i : Nat) : oI (some i) = i := rfl
theorem oI_neg {o : Option Nat} : oI o < 0 ↔ o = none := by cases o <;> simp [oI]

/-- The search's struct, and what does not change while one search goes on. -/
structure BS (S : Heap) (p bb : Nat) (g : Gr) (es : List RE) (by_ : Nat → Option Nat) (nx : Nat → List Nat) : Prop where
  c0 : S.cell p 0 = some (.int .i64 g.n)
  c1 : ∃ x, S.cell p 1 = some x ∧ ES S x es
  c2 : ∃ bo c, S.cell p 2 = some (.slice (some ⟨bo, 0, none⟩) g.n c) ∧ ∀ v, v < g.n → ∃ x, S.cell bo v = some x ∧ IL S x (nx v)
  c3 : ∃ c, S.cell p 3 = some (.slice (some ⟨bb, 0, none⟩) g.n c)
  hby : ∀ v, v < g.n → S.cell bb v = some (.int .i64 (oI (by_ v)))
  m : g.m = es.length
  ends : ∀ (i : Nat) (e : RE), es[i]? = some e → e.u = g.U i ∧ e.v = g.V i
  n1 : g.n ≤ 1024
  m1 : g.m ≤ 4096
  nxm : ∀ v, v < g.n → ∀ i, i ∈ nx v ↔ i < g.m ∧ g.U i ≠ g.V i ∧ (g.U i = v ∨ g.V i = v)
  nxl : ∀ v, v < g.n → (nx v).length ≤ 4096

theorem BS.le {S h : Heap} {p bb : Nat} {g : Gr} {es : List RE} {by_ : Nat → Option Nat} {nx : Nat → List Nat} (a : BS S p bb g es by_ nx) (l : Le S h) : BS h p bb g es by_ nx := by
  obtain ⟨x, hx, hE⟩ := a.c1
  obtain ⟨bo, c, h2, hr⟩ := a.c2
  obtain ⟨c3, h3⟩ := a.c3
  exact ⟨l.cell _ _ _ a.c0, ⟨x, l.cell _ _ _ hx, hE.le l⟩, ⟨bo, c, l.cell _ _ _ h2, fun v hv => let ⟨x, h4, h5⟩ := hr v hv; ⟨x, l.cell _ _ _ h4, h5.le l⟩⟩, ⟨c3, l.cell _ _ _ h3⟩, fun v hv => l.cell _ _ _ (a.hby v hv), a.m, a.ends, a.n1, a.m1, a.nxm, a.nxl⟩

section
variable {S h : Heap} {p bb : Nat} {g : Gr} {es : List RE} {by_ : Nat → Option Nat} {nx : Nat → List Nat}

theorem other_c' (a : BS h p bb g es by_ nx) {i v : Nat} (hi : i < g.m) (hv : v < g.n) : HCalls Try.prog 59 #[.pointer (some ⟨p, 0, none⟩), .int .i64 i, .int .i64 v] h fun e h' => h' = h ∧ e = .returned (.int .i64 ((g.U i : Int) + g.V i - v)) := by
  apply H59
  unfold F59
  obtain ⟨x, hx, hE⟩ := a.c1
  obtain ⟨A, c, rfl, _, hA⟩ := hE.shape
  have n1 := a.n1
  have hi' : i < es.length := by have := a.m; omega
  have he := List.getElem?_eq_getElem hi'
  obtain ⟨b, o, rfl, e0, e1, _⟩ := hA i _ he
  obtain ⟨u1, u2⟩ := a.ends i _ he
  have hu := g.hU i hi
  have hw := g.hV i hi
  have w1 : IntKind.i64.wrap ((g.U i : Int) + g.V i) = (g.U i : Int) + g.V i := wrap_in (by omega) (by omega)
  have w2 : IntKind.i64.wrap ((g.U i : Int) + g.V i - v) = (g.U i : Int) + g.V i - v := wrap_in (by omega) (by omega)
  simp [hx, hi', e0, e1, u1, u2, w1, w2]

theorem other_e (a : BS h p bb g es by_ nx) {i v w : Nat} (e : g.E i v w) : HCalls Try.prog 59 #[.pointer (some ⟨p, 0, none⟩), .int .i64 i, .int .i64 v] h fun en h' => h' = h ∧ en = .returned (.int .i64 w) := by
  refine (other_c' a e.lt e.ltx).mono ?_
  rintro en h' ⟨rfl, rfl⟩
  refine ⟨rfl, ?_⟩
  have : (g.U i : Int) + g.V i - v = w := by rcases e.or with h | h <;> omega
  rw [this]

theorem mate_c (a : BS h p bb g es by_ nx) (M : Mat g by_) {v : Nat} (hv : v < g.n) (hb : by_ v ≠ none) : HCalls Try.prog 57 #[.pointer (some ⟨p, 0, none⟩), .int .i64 v] h fun e h' => h' = h ∧ e = .returned (.int .i64 (mate g by_ v)) := by
  apply H57
  unfold F57
  obtain ⟨c, h3⟩ := a.c3
  obtain ⟨i, hi⟩ := Option.ne_none_iff_exists'.1 hb
  have e := M.edge hv hi
  have hv' : (v : Int) < (g.n : Int) := by omega
  simp [h3, hv', a.hby v hv, hi]
  refine CALL_mk en59 (other_e a e) ?_
  rintro en h' ⟨rfl, rfl⟩
  simp

/-- Where the arrays of one search lie. -/
structure BC (h : Heap) (p bs bv be n : Nat) : Prop where
  c4 : ∃ c, h.cell p 4 = some (.slice (some ⟨bs, 0, none⟩) n c)
  c5 : ∃ c, h.cell p 5 = some (.slice (some ⟨bv, 0, none⟩) n c)
  c6 : ∃ c, h.cell p 6 = some (.slice (some ⟨be, 0, none⟩) n c)
/-- The arrays of one search. -/
structure AR (h : Heap) (bs bv be n : Nat) (base : Nat → Nat) (via : Nat → Option Nat) (ev : Nat → Bool) : Prop where
  hs : IA h bs n fun v => (base v : Int)
  hv : IA h bv n fun v => oI (via v)
  he : BA h be n ev

theorem BC.le {h h' : Heap} {p bs bv be n : Nat} (a : BC h p bs bv be n) (l : Le h h') : BC h' p bs bv be n :=
  ⟨let ⟨c, x⟩ := a.c4; ⟨c, l.cell _ _ _ x⟩, let ⟨c, x⟩ := a.c5; ⟨c, l.cell _ _ _ x⟩, let ⟨c, x⟩ := a.c6; ⟨c, l.cell _ _ _ x⟩⟩
theorem AR.le {h h' : Heap} {bs bv be n : Nat} {base : Nat → Nat} {via : Nat → Option Nat} {ev : Nat → Bool} (a : AR h bs bv be n base via ev) (l : Le h h') : AR h' bs bv be n base via ev :=
  ⟨a.hs.le l, a.hv.le l, a.he.le l⟩

variable {bs bv be r : Nat} {base : Nat → Nat} {via : Nat → Option Nat} {ev : Nat → Bool} {P : Nat → List Nat}

theorem meet_c (a : BS h p bb g es by_ nx) (C : BC h p bs bv be g.n) (A : AR h bs bv be g.n base via ev) (s : Sr g by_ r base via ev P) {x y : Nat} (hx : x < g.n) (ex : ev x = true) (hy : y < g.n) (ey : ev y = true) :
    HCalls Try.prog 114 #[.pointer (some ⟨p, 0, none⟩), .int .i64 x, .int .i64 y] h fun e h' => Le h h' ∧ ∃ top : Nat, e = .returned (.int .i64 top) ∧ Top g base ev P x y top := by
  apply H114
  unfold F114
  have n1 := a.n1
  have vm : ∀ v k, via v = some k → oI (via v) = (k : Int) := fun v k hk => by rw [hk]; rfl
  simp [a.c0, ms_74 g.n (by omega) (by omega)]
  intro q hq
  have l1 := Heap.le_new hq (zrow #[.bool false] g.n) 4
  have q1 := GA.fresh Value.bool 4 h q g.n false
  generalize h.new q (zrow #[.bool false] g.n) 4 = h1 at l1 q1
  refine JN.mk fun J hJ => ?_
  let full : Nat → Bool := fun z => ev z && (base z == z) && decide (P z <:+ P x)
  have fullE : ∀ z, full z = true ↔ ev z = true ∧ base z = z ∧ P z <:+ P x := fun z => by simp [full, and_assoc]
  have hJ2 : ∀ h3, Le h h3 → BA h3 q g.n full → J h3 := by
    intro h3 l3 q3
    rw [hJ]
    clear hJ J
    have a3 := a.le l3
    have A3 := A.le l3
    obtain ⟨c4, e4⟩ := (C.le l3).c4
    obtain ⟨c5, e5⟩ := (C.le l3).c5
    obtain ⟨I, hI⟩ : ∃ I : Nat → List Value → Heap → Prop, ∀ m xs h4, I m xs h4 ↔ ∃ z : Nat, xs = [.int .i64 z] ∧ z < g.n ∧ ev z = true ∧ m = (P z).length ∧ h4 = h3 ∧ P z <:+ P y ∧ ∀ β, β < g.n → ev β = true → base β = β → P β <:+ P x → P β <:+ P y → P β <:+ P z := ⟨_, fun _ _ _ => Iff.rfl⟩
    refine ⟨I, ⟨_, (hI _ _ _).2 ⟨y, rfl, hy, ey, rfl, rfl, List.suffix_refl _, fun _ _ _ _ _ h => h⟩⟩, ?_⟩
    intro m X h4 hI1
    obtain ⟨z, hX, hz, ez, rfl, rfl, hs, hh⟩ := (hI _ _ _).1 hI1
    simp only [List.cons.injEq, and_true] at hX
    simp only [hX]
    obtain ⟨b1, b2, b3, _⟩ := s.bs z hz ez
    have hz' : (z : Int) < (g.n : Int) := by omega
    have hb' : ((base z : Nat) : Int) < (g.n : Int) := by omega
    simp [e4, hz', A3.hs.cell z hz, hb', q3.cell _ b1]
    rw [ifV_bool]
    refine ⟨fun hp => ?_, fun hp => ?_⟩
    · obtain ⟨_, _, h5⟩ := (fullE _).1 hp
      refine ⟨l3, base z, rfl, b1, b2, b3, h5, (s.suf_base hz ez).trans hs, fun β h6 h7 h8 h9 h10 => ?_⟩
      have := s.base_mono hz ez h6 h7 (hh β h6 h7 h8 h9 h10)
      rwa [h8] at this
    · have hne : base z ≠ r := fun e => by
        have : full (base z) = true := (fullE _).2 ⟨b2, b3, by rw [e, s.rp]; exact s.rootP hx ex⟩
        rw [hp] at this; cases this
      obtain ⟨hby, k, u, hk, hE, hu, hP⟩ := s.stp _ b1 b2 hne
      refine CALL_mk en57 (mate_c a3 s.mat b1 hby) ?_
      rintro e h5 ⟨rfl, rfl⟩
      have hm := s.mat.lt b1
      have hm' : ((mate g by_ (base z) : Nat) : Int) < (g.n : Int) := by omega
      simp [e5, hm', A3.hv.cell _ hm, hk]
      refine CALL_mk en59 (other_e a3 hE) ?_
      rintro e h6 ⟨rfl, rfl⟩
      refine ⟨_, ?_, (hI _ _ _).2 ⟨u, rfl, hE.lty, hu, rfl, rfl, ?_, fun β h6 h7 h8 h9 h10 => ?_⟩⟩
      · have := (s.suf_base hz ez).length_le
        rw [hP] at this
        simp at this
        omega
      · refine List.IsSuffix.trans ?_ ((s.suf_base hz ez).trans hs)
        rw [hP]; exact List.suffix_cons _ _
      · have h11 := s.base_mono hz ez h6 h7 (hh β h6 h7 h8 h9 h10)
        rw [h8, hP] at h11
        rcases List.suffix_cons_iff.1 h11 with h12 | h12
        · exfalso
          rw [← hP] at h12
          have := s.eqP h6 h7 b1 b2 h12
          have : full (base z) = true := (fullE _).2 ⟨b2, b3, this ▸ h9⟩
          rw [hp] at this; cases this
        · exact h12
  clear hJ
  obtain ⟨c4, e4⟩ := C.c4
  obtain ⟨c5, e5⟩ := C.c5
  obtain ⟨cb, e3⟩ := a.c3
  obtain ⟨I, hI⟩ : ∃ I : Nat → List Value → Heap → Prop, ∀ m xs h4, I m xs h4 ↔ ∃ (z : Nat) (pas : Nat → Bool), xs = [.int .i64 z] ∧ z < g.n ∧ ev z = true ∧ m = (P z).length ∧ Le h h4 ∧ BA h4 q g.n pas ∧ P z <:+ P x ∧
      ∀ w, w < g.n → (pas w = true ↔ ev w = true ∧ base w = w ∧ P w <:+ P x ∧ ¬ P w <:+ P z) := ⟨_, fun _ _ _ => Iff.rfl⟩
  refine ⟨I, ⟨_, (hI _ _ _).2 ⟨x, _, rfl, hx, ex, rfl, l1, q1, List.suffix_refl _, fun w hw => by simp⟩⟩, ?_⟩
  clear l1 q1
  intro m X h4 hI1
  obtain ⟨z, pas, hX, hz, ez, rfl, l4, q4, hs, hp⟩ := (hI _ _ _).1 hI1
  simp only [List.cons.injEq, and_true] at hX
  simp only [hX]
  obtain ⟨b1, b2, b3, _⟩ := s.bs z hz ez
  have hz' : (z : Int) < (g.n : Int) := by omega
  have hb' : ((base z : Nat) : Int) < (g.n : Int) := by omega
  have A4 := A.le l4
  simp [l4.cell _ _ _ e4, hz', A4.hs.cell z hz, hb', q4.can b1]
  have l5 := l4.set_fresh hq (base z) (.bool true)
  have q5 := q4.set (i := base z) true
  generalize h4.set q (base z) (.bool true) = h5 at l5 q5
  have a5 := a.le l5
  have A5 := A.le l5
  simp [l5.cell _ _ _ e3, hb', a5.hby _ b1]
  -- what is passed now
  have key : ∀ w, w < g.n → ∀ (Q : List Nat), (∀ w, w < g.n → ev w = true → base w = w → P w <:+ P z → (P w <:+ Q ∨ w = base z)) → ¬ P (base z) <:+ Q → Q <:+ P z →
      (upd pas (base z) true w = true ↔ ev w = true ∧ base w = w ∧ P w <:+ P x ∧ ¬ P w <:+ Q) := by
    intro w hw Q h1 h2 h3
    by_cases e : w = base z
    · subst e
      rw [upd_same]
      exact ⟨fun _ => ⟨b2, b3, (s.suf_base hz ez).trans hs, h2⟩, fun _ => rfl⟩
    · rw [upd_ne _ _ e, hp w hw]
      constructor
      · rintro ⟨x1, x2, x3, x4⟩
        exact ⟨x1, x2, x3, fun h => x4 (h.trans h3)⟩
      · rintro ⟨x1, x2, x3, x4⟩
        exact ⟨x1, x2, x3, fun h => (h1 w hw x1 x2 h).elim x4 e⟩
  have chain : ∀ w, w < g.n → ev w = true → base w = w → P w <:+ P z → P w <:+ P (base z) := fun w hw ew hb h => by
    have := s.base_mono hz ez hw ew h
    rwa [hb] at this
  refine ⟨fun hneg => ?_, fun hpos => ?_⟩
  · have hr := s.free b1 b2 (oI_neg.1 hneg)
    refine hJ2 _ l5 (q5.ext fun w hw => ?_)
    have h6 := key w hw [] (fun w hw ew hb h => by
      right
      have h7 := chain w hw ew hb h
      rw [hr, s.rp] at h7
      have h8 := s.rootP hw ew
      have : P w = [r] := by
        have l1 := h7.length_le
        exact (h8.eq_of_length (by have := h8.length_le; simp at *; omega)).symm
      rw [hr]
      exact s.eqP hw ew s.rn s.re (by rw [this, s.rp])) (fun h => by
        have := s.self b1 b2
        rw [List.suffix_nil.1 h] at this
        cases this) (List.nil_suffix)
    have h9 : (ev w = true ∧ base w = w ∧ P w <:+ P x ∧ ¬ P w <:+ []) ↔ (ev w = true ∧ base w = w ∧ P w <:+ P x) := by
      constructor
      · rintro ⟨x1, x2, x3, _⟩; exact ⟨x1, x2, x3⟩
      · rintro ⟨x1, x2, x3⟩
        refine ⟨x1, x2, x3, fun h => ?_⟩
        have := s.self hw x1
        rw [List.suffix_nil.1 h] at this
        cases this
    rw [Bool.eq_iff_iff, h6, h9, fullE]
  · have hne : base z ≠ r := fun e => by rw [e, s.rf] at hpos; simp at hpos
    obtain ⟨hby, k, u, hk, hE, hu, hP⟩ := s.stp _ b1 b2 hne
    refine CALL_mk en57 (mate_c a5 s.mat b1 hby) ?_
    rintro e h6 ⟨rfl, rfl⟩
    have hm := s.mat.lt b1
    have hm' : ((mate g by_ (base z) : Nat) : Int) < (g.n : Int) := by omega
    simp [l5.cell _ _ _ e5, hm', A5.hv.cell _ hm, hk]
    refine ⟨by omega, CALL_mk en59 (other_e a5 hE) ?_⟩
    rintro e h7 ⟨rfl, rfl⟩
    have hus : P u <:+ P z := by
      refine List.IsSuffix.trans ?_ (s.suf_base hz ez)
      rw [hP]; exact List.suffix_cons _ _
    refine ⟨_, ?_, (hI _ _ _).2 ⟨u, _, rfl, hE.lty, hu, rfl, l5, q5, hus.trans hs, fun w hw => ?_⟩⟩
    · have := (s.suf_base hz ez).length_le
      rw [hP] at this
      simp at this
      omega
    · refine key w hw (P u) (fun w hw ew hb h => ?_) (fun h => ?_) hus
      · have h7 := chain w hw ew hb h
        rw [hP] at h7
        rcases List.suffix_cons_iff.1 h7 with h8 | h8
        · rw [← hP] at h8
          exact .inr (s.eqP hw ew b1 b2 h8)
        · exact .inl h8
      · have := h.length_le
        rw [hP, List.length_cons] at this
        omega

end

end Go.Proofs.Ythchjolcjicpgaa

/- blossom: the contract of mark. -/
namespace Go.Proofs.Ythchjolcjicpgaa
open Go.HW Blo

/-- What mark does to 'via'. -/
structure MkV (g : Gr) (by_ : Nat → Option Nat) (via : Nat → Option Nat) (i : Nat) (p : List Nat) (via' : Nat → Option Nat) : Prop where
  chg : ∀ p1 x p2, p = p1 ++ x :: p2 → via' x = lnk g by_ via i p1
  same : ∀ z, z ∉ p → via' z = via z

theorem two_fresh {S : Heap} {x y : Nat} (f1 : S.fresh x) (f2 : S.fresh y) : ∀ b, (b = x ∨ b = y) → S.fresh b := fun b h => h.elim (fun e => e ▸ f1) (fun e => e ▸ f2)

theorem lnk_snoc (g : Gr) (by_ via : Nat → Option Nat) (i : Nat) (p : List Nat) (x : Nat) : lnk g by_ via i (p ++ [x]) = via (mate g by_ x) := by simp [lnk]

theorem MkV.snoc {g : Gr} {by_ via via' : Nat → Option Nat} {i : Nat} {p : List Nat} (m : MkV g by_ via i p via') {x : Nat} (hx : x ∉ p) : MkV g by_ via i (p ++ [x]) (upd via' x (lnk g by_ via i p)) := by
  refine ⟨fun p1 y p2 e => ?_, fun z hz => ?_⟩
  · rcases List.eq_nil_or_concat p2 with rfl | ⟨p3, z, rfl⟩
    · have := List.append_inj' e rfl
      obtain ⟨rfl, h2⟩ := this
      cases h2
      rw [upd_same]
    · have e' : p ++ [x] = (p1 ++ y :: p3) ++ [z] := by rw [e]; simp
      obtain ⟨h1, h2⟩ := List.append_inj' e' rfl
      have hy : y ∈ p := by rw [h1]; simp
      rw [upd_ne _ _ (fun e => hx (by rw [← e]; exact hy))]
      exact m.chg p1 y p3 h1
  · simp at hz
    rw [upd_ne _ _ hz.2]
    exact m.same z hz.1

section
variable {S h : Heap} {p bb : Nat} {g : Gr} {es : List RE} {by_ : Nat → Option Nat} {nx : Nat → List Nat}
variable {bs bv be r : Nat} {base : Nat → Nat} {via : Nat → Option Nat} {ev : Nat → Bool} {P : Nat → List Nat}

theorem mark_c (a : BS S p bb g es by_ nx) (C : BC S p bs bv be g.n) (s : Sr g by_ r base via ev P) {via0 : Nat → Option Nat} (l : Le S h) (hs : IA h bs g.n fun v => (base v : Int)) (hv : IA h bv g.n fun v => oI (via0 v)) {q : Nat} {inn : Nat → Bool} (hq : BA h q g.n inn)
    (fv : S.fresh bv) (fq : S.fresh q) (n1 : bs ≠ bv) (n2 : bs ≠ q) (n3 : bv ≠ q) {x top i : Nat} (hx : x < g.n) (ex : ev x = true) (ht : top < g.n) (et : ev top = true) (tb : base top = top) (hst : P top <:+ P x)
    (hvia : ∀ z, z ∈ P x → base z ≠ top → via0 (mate g by_ z) = via (mate g by_ z)) :
    HCalls Try.prog 115 #[.pointer (some ⟨p, 0, none⟩), .int .i64 x, .int .i64 top, .int .i64 i, .slice (some ⟨q, 0, none⟩) g.n g.n] h fun e h' => e = .returned (.tuple #[]) ∧ Wiped (fun b => b = bv ∨ b = q) h h' ∧
      ∃ pl c via' inn', Pre g base ev P x top pl c ∧ MkV g by_ via0 i pl via' ∧ (∀ β, inn' β = true ↔ inn β = true ∨ ∃ z, z ∈ pl ∧ (β = base z ∨ β = base (mate g by_ z))) ∧ (IA h' bv g.n fun v => oI (via' v)) ∧ BA h' q g.n inn' := by
  apply H115
  unfold F115
  obtain ⟨c4, e4⟩ := C.c4
  obtain ⟨c5, e5⟩ := C.c5
  obtain ⟨I, hI⟩ : ∃ I : Nat → List Value → Heap → Prop, ∀ m xs h4, I m xs h4 ↔ ∃ (z : Nat) (pl : List Nat) (k : Nat) (via' : Nat → Option Nat) (inn' : Nat → Bool), xs = [.int .i64 z, .int .i64 k] ∧ z < g.n ∧ ev z = true ∧ m = (P z).length ∧ Wiped (fun b => b = bv ∨ b = q) h h4 ∧
      P x = pl ++ P z ∧ (∀ y, y ∈ pl → base y ≠ top) ∧ P top <:+ P z ∧ lnk g by_ via0 i pl = some k ∧ MkV g by_ via0 i pl via' ∧ (∀ β, inn' β = true ↔ inn β = true ∨ ∃ z, z ∈ pl ∧ (β = base z ∨ β = base (mate g by_ z))) ∧ (IA h4 bv g.n fun v => oI (via' v)) ∧ BA h4 q g.n inn' := ⟨_, fun _ _ _ => Iff.rfl⟩
  refine ⟨I, ⟨_, (hI _ _ _).2 ⟨x, [], i, via0, inn, rfl, hx, ex, rfl, Wiped.refl _ _, rfl, by simp, hst, rfl, ⟨fun p1 y p2 e => by simp at e, fun _ _ => rfl⟩, fun β => by simp, hv, hq⟩⟩, ?_⟩
  intro m X h4 hI1
  obtain ⟨z, pl, k, via', inn', hX, hz, ez, rfl, W, hP, hne, hts, hlk, mk, hin, hv4, hq4⟩ := (hI _ _ _).1 hI1
  simp only [List.cons.injEq, and_true] at hX
  obtain ⟨hX1, hX2⟩ := hX
  simp only [hX1, hX2]
  have l4 : Le S h4 := W.le l (two_fresh fv fq)
  have hs4 : IA h4 bs g.n fun v => (base v : Int) := ⟨fun v hv => by rw [W.2 bs (fun h => h.elim n1 n2)]; exact hs.cell v hv, by rw [W.1]; exact hs.info⟩
  have hz' : (z : Int) < (g.n : Int) := by omega
  simp [l4.cell _ _ _ e4, hz', hs4.cell z hz]
  refine ⟨fun hne0 => ?_, fun heq0 => ?_⟩
  · have hne1 : base z ≠ top := fun h => hne0 (by rw [h])
    have hzr : z ≠ r := fun e => by
      subst e
      rw [s.rp] at hts
      have h1 := s.rootP ht et
      have : P top = [z] := (h1.eq_of_length (by have := h1.length_le; have := hts.length_le; simp at *; omega)).symm
      exact hne1 (by rw [s.root_base, s.eqP ht et s.rn s.re (by rw [this, s.rp])])
    obtain ⟨hby, k', u, hk, hE, hu, hPu⟩ := s.stp z hz ez hzr
    have hm := s.mat.lt hz
    have hm' : ((mate g by_ z : Nat) : Int) < (g.n : Int) := by omega
    have hzx : z ∈ P x := by rw [hP]; exact List.mem_append_right _ (s.self hz ez)
    have hnd := s.ok x hx ex
    have hzpl : z ∉ pl := fun h => by
      have := hnd.nd
      rw [hP] at this
      exact (List.nodup_append.1 this).2.2 z h z (s.self hz ez) rfl
    have hmx : mate g by_ z ∉ P x := fun h => s.mat.ne hz hby (hnd.mf z hzx h)
    have hmpl : mate g by_ z ∉ pl := fun h => hmx (by rw [hP]; simp [h])
    have hmz : mate g by_ z ≠ z := s.mat.ne hz hby
    obtain ⟨b1, b2, b3, _⟩ := s.bs z hz ez
    have hb' : ((base z : Nat) : Int) < (g.n : Int) := by omega
    have hbm : base (mate g by_ z) < g.n := by
      cases h : ev (mate g by_ z) with
      | true => exact (s.bs _ hm h).1
      | false => rw [s.bo _ hm h]; exact hm
    have hbm' : ((base (mate g by_ z) : Nat) : Int) < (g.n : Int) := by omega
    refine CALL_mk en57 (mate_c (a.le l4) s.mat hz hby) ?_
    rintro e h5 ⟨rfl, rfl⟩
    simp [l4.cell _ _ _ e4, hz', hs4.cell z hz, hm', hs4.cell _ hm, hb', hbm', hq4.can b1, hq4.can hbm]
    intro _ _
    have W6 := (W.set (b := q) (.inr rfl) (base z) (.bool true)).set (b := q) (.inr rfl) (base (mate g by_ z)) (.bool true)
    have q6 := (hq4.set (i := base z) true).set (i := base (mate g by_ z)) true
    have v6 := (hv4.other n3 (i := base z) (.bool true)).other n3 (i := base (mate g by_ z)) (.bool true)
    generalize (h5.set q (base z) (.bool true)).set q (base (mate g by_ z)) (.bool true) = h6 at W6 q6 v6
    have l6 : Le S h6 := W6.le l (two_fresh fv fq)
    simp [l6.cell _ _ _ e5, hz', v6.can hz]
    have W7 := W6.set (b := bv) (.inl rfl) z (.int .i64 k)
    have q7 := q6.other n3.symm (i := z) (.int .i64 k)
    have v7 := v6.set (i := z) (k : Int)
    generalize h6.set bv z (.int .i64 k) = h7 at W7 q7 v7
    have l7 : Le S h7 := W7.le l (two_fresh fv fq)
    have mk2 := mk.snoc hzpl
    have hv7 : IA h7 bv g.n fun v => oI (upd via' z (lnk g by_ via0 i pl) v) := v7.ext fun v _ => by
      simp only [upd]
      split
      · rw [hlk]; rfl
      · rfl
    have hvm : upd via' z (lnk g by_ via0 i pl) (mate g by_ z) = some k' := by
      rw [upd_ne _ _ hmz, mk.same _ hmpl, hvia z hzx hne1, hk]
    have hcell := hv7.cell _ hm
    simp only [hvm, oI_some] at hcell
    simp [l7.cell _ _ _ e5, hm', hcell]
    refine CALL_mk en59 (other_e (a.le l7) hE) ?_
    rintro e h8 ⟨rfl, rfl⟩
    refine ⟨_, ?_, (hI _ _ _).2 ⟨u, pl ++ [z], k', _, _, rfl, hE.lty, hu, rfl, W7, ?_, ?_, ?_, ?_, mk2, fun β => ?_, hv7, q7⟩⟩
    · rw [hPu]; simp
    · rw [hP, hPu]; simp
    · intro y hy
      rcases List.mem_append.1 hy with h | h
      · exact hne y h
      · simp at h; subst h; exact hne1
    · rw [hPu] at hts
      rcases List.suffix_cons_iff.1 hts with h | h
      · rw [← hPu] at h
        have := s.eqP ht et hz ez h
        exact absurd (by rw [← this]; exact tb) hne1
      · exact h
    · rw [lnk_snoc, hvia z hzx hne1, hk]
    · simp only [upd]
      constructor
      · intro h
        split at h
        · next e => exact .inr ⟨z, by simp, .inr e⟩
        · split at h
          · next e => exact .inr ⟨z, by simp, .inl e⟩
          · rcases (hin β).1 h with h | ⟨y, hy, h⟩
            · exact .inl h
            · exact .inr ⟨y, by simp [hy], h⟩
      · rintro (h | ⟨y, hy, h⟩)
        · split
          · rfl
          · split
            · rfl
            · exact (hin β).2 (.inl h)
        · rcases List.mem_append.1 hy with h' | h'
          · split
            · rfl
            · split
              · rfl
              · exact (hin β).2 (.inr ⟨y, h', h⟩)
          · simp at h'
            subst h'
            rcases h with h | h
            · split <;> first | rfl | (rw [if_pos h]) | (split <;> first | rfl | (exfalso; contradiction))
            · split <;> first | rfl | (exfalso; contradiction)
  · have heq : base z = top := by omega
    exact ⟨W, pl, ⟨z, ⟨hP, hz, ez, heq, hne⟩⟩, via', mk, inn', hin, hv4, hq4⟩

end

end Go.Proofs.Ythchjolcjicpgaa

/- blossom: the contract of shrink. -/
namespace Go.Proofs.Ythchjolcjicpgaa
open Go.HW Blo

section
variable {S h : Heap} {p bb : Nat} {g : Gr} {es : List RE} {by_ : Nat → Option Nat} {nx : Nat → List Nat}
variable {bs bv be r : Nat} {base : Nat → Nat} {via : Nat → Option Nat} {ev : Nat → Bool} {P : Nat → List Nat}

theorem mk_shr (s : Sr g by_ r base via ev P) {i x y top c d : Nat} {pl ql : List Nat} {via1 via2 : Nat → Option Nat} {inn : Nat → Bool} (e : g.E i x y) (ex : ev x = true) (ey : ev y = true) (t : Top g base ev P x y top) (pa : Pre g base ev P x top pl c) (pb : Pre g base ev P y top ql d)
    (m1 : MkV g by_ via i pl via1) (m2 : MkV g by_ via1 i ql via2) (hin : ∀ β, inn β = true ↔ ∃ z, (z ∈ pl ∨ z ∈ ql) ∧ (β = base z ∨ β = base (mate g by_ z))) :
    ∃ hit, Shr g by_ r base via ev P i x y top pl c ql d via2 inn hit := by
  have ap : ∀ z, z ∈ pl → z ∉ P y ∧ mate g by_ z ∉ P y := fun z hz => s.apart e.ltx ex e.lty ey t pa hz
  have aq : ∀ z, z ∈ ql → z ∉ P x ∧ mate g by_ z ∉ P x := fun z hz => s.apart e.lty ey e.ltx ex t.symm pb hz
  have mp : ∀ z, z ∈ pl → z ∈ P x := fun z hz => pa.mem hz
  have mq : ∀ z, z ∈ ql → z ∈ P y := fun z hz => pb.mem hz
  have lp : ∀ z, z ∈ pl → z < g.n := fun z hz => (s.memP e.ltx ex (mp z hz)).1
  have lq : ∀ z, z ∈ ql → z < g.n := fun z hz => (s.memP e.lty ey (mq z hz)).1
  refine ⟨fun v => if mate g by_ v ∈ pl then some (tn g by_ pl (P y) (mate g by_ v)) else if mate g by_ v ∈ ql then some (tn g by_ ql (P x) (mate g by_ v)) else none, s, e, ex, ey, t, pa, pb, fun p1 z p2 hz => ?_, fun p1 z p2 hz => ?_, fun z h1 h2 => ?_, hin, fun z hz => ?_, fun z hz => ?_, fun v hv h1 h2 => ?_⟩
  · have hzp : z ∈ pl := by rw [hz]; simp
    rw [m2.same z fun h => (ap z hzp).1 (mq z h)]
    exact m1.chg p1 z p2 hz
  · rw [m2.chg p1 z p2 hz]
    unfold lnk
    cases hl : p1.getLast? with
    | none => rfl
    | some w =>
      have hw : w ∈ ql := by
        have := List.mem_of_getLast? hl
        rw [hz]; simp [this]
      refine m1.same _ fun h => (aq w hw).2 (mp _ h)
  · rw [m2.same z h2, m1.same z h1]
  · simp only [s.mat.inv (lp z hz), hz, if_true]
  · have : z ∉ pl := fun h => (aq z hz).1 (mp z h)
    simp only [s.mat.inv (lq z hz), this, hz, if_true, if_false]
  · simp only [h1, h2, if_false]

/-- What a shrinking leaves. -/
structure ShkR (g : Gr) (by_ : Nat → Option Nat) (r : Nat) (base : Nat → Nat) (via : Nat → Option Nat) (ev : Nat → Bool) (lq : List Nat) (x y : Nat) (base2 : Nat → Nat) (via2 : Nat → Option Nat) (ev2 : Nat → Bool) (P2 : Nat → List Nat) (lq2 : List Nat) : Prop where
  sr : Sr g by_ r base2 via2 ev2 P2
  evu : ∀ v, ev v = true → ev2 v = true
  bas : ∀ v w, base v = base w → base2 v = base2 w
  one : base2 x = base2 y
  vsm : ∀ v, v < g.n → ev2 v = false → via2 v = via v
  new : ∀ v, v < g.n → ev2 v = true → ev v = false → v ∈ lq2
  qu : ∃ nw, lq2 = lq ++ nw ∧ nw.Nodup ∧ ∀ v, v ∈ nw → v < g.n ∧ ev v = false ∧ ev2 v = true

def ShkQ (S : Heap) (p bs bv be : Nat) (g : Gr) (by_ : Nat → Option Nat) (r : Nat) (base : Nat → Nat) (via : Nat → Option Nat) (ev : Nat → Bool) (lq : List Nat) (x y : Nat) (h' : Heap) : Prop :=
  ∃ base2 via2 ev2 P2 lq2 xq2 bk2, ShkR g by_ r base via ev lq x y base2 via2 ev2 P2 lq2 ∧ AR h' bs bv be g.n base2 via2 ev2 ∧ h'.cell p 7 = some xq2 ∧ GQ S h' xq2 lq2 bk2 ∧ bk2 ≠ some bs ∧ bk2 ≠ some bv ∧ bk2 ≠ some be

theorem newly_succ (f : Nat → Bool) (k : Nat) : (List.range (k + 1)).filter f = (List.range k).filter f ++ (if f k = true then [k] else []) := by
  rw [List.range_succ, List.filter_append]
  simp only [List.filter_cons, List.filter_nil]

theorem shrink_c (a : BS S p bb g es by_ nx) (C : BC S p bs bv be g.n) (s : Sr g by_ r base via ev P) (l : Le S h) (A : AR h bs bv be g.n base via ev) (ip : S.info p = some (101, 8)) (c7 : S.cell p 7 = none)
    (fs : S.fresh bs) (fv : S.fresh bv) (fe : S.fresh be) (n1 : bs ≠ bv) (n2 : bs ≠ be) (n3 : bv ≠ be) {xq : Value} {lq : List Nat} {bk : Option Nat} (hq7 : h.cell p 7 = some xq) (gq : GQ S h xq lq bk) (k1 : bk ≠ some bs) (k2 : bk ≠ some bv) (k3 : bk ≠ some be)
    (hql : lq.length ≤ g.n) {i : Nat} {x y : Nat} (e : g.E i x y) (hx : g.U i = x) (ex : ev x = true) (ey : ev y = true) :
    HCalls Try.prog 91 #[.pointer (some ⟨p, 0, none⟩), .int .i64 i] h fun en h' => en = .returned (.tuple #[]) ∧ Le S h' ∧ ShkQ S p bs bv be g by_ r base via ev lq x y h' := by
  apply H91
  unfold F91
  have hn := a.n1
  obtain ⟨xe, hxe, hE⟩ := (a.le l).c1
  obtain ⟨Ae, ce, rfl, _, hA⟩ := hE.shape
  have hi' : i < es.length := by have := a.m; have := e.lt; omega
  have he := List.getElem?_eq_getElem hi'
  obtain ⟨b, o, rfl, e0, e1, _⟩ := hA i _ he
  obtain ⟨u1, u2⟩ := a.ends i _ he
  have hy : g.V i = y := by rcases e.or with h | h <;> omega
  rw [u1, hx] at e0
  rw [u2, hy] at e1
  have hpk : bk ≠ some p := by
    rintro rfl
    obtain ⟨f, _⟩ := gq
    exact f.nei ip rfl
  simp [hxe, hi', e0, e1]
  refine CALL_mk en114 (meet_c (a.le l) (C.le l) A s e.ltx ex e.lty ey) ?_
  rintro en h1 ⟨l1, top, rfl, t⟩
  have L1 := l.trans l1
  simp [L1.cell _ _ _ a.c0, ms_74 g.n (by omega) (by omega)]
  intro q hq
  have A1 := A.le l1
  have fq := hq.le L1
  have hqs : bs ≠ q := hq.nei A1.hs.info
  have hqv : bv ≠ q := hq.nei A1.hv.info
  have hqe : be ≠ q := hq.nei A1.he.info
  have gq1 := gq.le l1
  have hqk : bk ≠ some q := by
    rintro rfl
    obtain ⟨N, hN⟩ := gq1.known
    exact hq.nei hN rfl
  have hqp : p ≠ q := hq.nei (L1.info _ _ ip)
  have l2 := L1.new hq (zrow #[.bool false] g.n) 4
  have q2 := GA.fresh Value.bool 4 h1 q g.n false
  have A2 := A1.le (Heap.le_new hq (zrow #[.bool false] g.n) 4)
  have gq2 := gq1.le (Heap.le_new hq (zrow #[.bool false] g.n) 4)
  have hq72 := (Heap.le_new hq (zrow #[.bool false] g.n) 4).cell _ _ _ (l1.cell _ _ _ hq7)
  generalize h1.new q (zrow #[.bool false] g.n) 4 = h2 at l2 q2 A2 gq2 hq72
  refine CALL_mk en115 (mark_c a C s l2 A2.hs A2.hv q2 fv fq n1 hqs hqv e.ltx ex t.lt t.te t.tb t.sa fun z _ _ => rfl) ?_
  rintro en h3 ⟨rfl, W3, pl, c, via1, in1, pa, m1, i1, v3, q3⟩
  have fPq : ∀ b, (b = bv ∨ b = q) → S.fresh b := two_fresh fv fq
  have l3 := W3.le l2 fPq
  have hs3 : IA h3 bs g.n fun v => (base v : Int) := ⟨fun v hv => by rw [W3.2 bs (fun h => h.elim n1 hqs)]; exact A2.hs.cell v hv, by rw [W3.1]; exact A2.hs.info⟩
  have ap : ∀ z, z ∈ pl → z ∉ P y ∧ mate g by_ z ∉ P y := fun z hz => s.apart e.ltx ex e.lty ey t pa hz
  refine CALL_mk en115 (mark_c a C s l3 hs3 v3 q3 fv fq n1 hqs hqv e.lty ey t.lt t.te t.tb t.sb fun z hz hne => ?_) ?_
  · refine m1.same _ fun hm => ?_
    have := (ap _ hm).2
    rw [s.mat.inv (s.memP e.lty ey hz).1] at this
    exact this hz
  rintro en h4 ⟨rfl, W4, ql, d, via2, in2, pb, m2, i2, v4, q4⟩
  have W := W3.trans W4
  have l4 := W.le l2 fPq
  have nW : ∀ b, b ≠ bv → b ≠ q → ¬ (b = bv ∨ b = q) := fun b h1 h2 h => h.elim h1 h2
  have hs4 : IA h4 bs g.n fun v => (base v : Int) := ⟨fun v hv => by rw [W.2 bs (nW _ n1 hqs)]; exact A2.hs.cell v hv, by rw [W.1]; exact A2.hs.info⟩
  have he4 : BA h4 be g.n ev := ⟨fun v hv => by rw [W.2 be (nW _ n3.symm hqe)]; exact A2.he.cell v hv, by rw [W.1]; exact A2.he.info⟩
  have hpv : p ≠ bv := fun h => fv.nei ip h
  have hps : p ≠ bs := fun h => fs.nei ip h
  have hpe : p ≠ be := fun h => fe.nei ip h
  have hq74 : h4.cell p 7 = some xq := by rw [W.2 p (nW _ hpv hqp)]; exact hq72
  have gq4 : GQ S h4 xq lq bk := by
    cases bk with
    | none => exact gq2
    | some b =>
      obtain ⟨f, o, c, N, rfl, hc, hi, hN, h1⟩ := gq2
      have hb := nW b (fun h => k2 (by rw [h])) (fun h => hqk (by rw [h]))
      exact ⟨f, o, c, N, rfl, hc, by rw [W.1]; exact hi, hN, fun j i hj => by rw [W.2 b hb]; exact h1 j i hj⟩
  have hin : ∀ β, in2 β = true ↔ ∃ z, (z ∈ pl ∨ z ∈ ql) ∧ (β = base z ∨ β = base (mate g by_ z)) := fun β => by
    rw [i2, i1]
    simp only [Bool.false_eq_true, false_or]
    constructor
    · rintro (⟨z, h1, h2⟩ | ⟨z, h1, h2⟩)
      · exact ⟨z, .inl h1, h2⟩
      · exact ⟨z, .inr h1, h2⟩
    · rintro ⟨z, h1 | h1, h2⟩
      · exact .inl ⟨z, h1, h2⟩
      · exact .inr ⟨z, h1, h2⟩
  obtain ⟨hit, H⟩ := mk_shr s e ex ey t pa pb m1 m2 hin
  clear W W3 W4 hs3 v3 q3 q2 A2 gq2 hq72 l3 l2 gq1 A1 hq7 gq A i1 i2 m1 m2
  obtain ⟨base2, hb2⟩ : ∃ b2, b2 = Blo.base' base in2 top := ⟨_, rfl⟩
  obtain ⟨ev2, he2⟩ : ∃ e2, e2 = Blo.ev' base ev in2 := ⟨_, rfl⟩
  let nwf : Nat → Bool := fun v => !ev v && in2 (base v)
  have bq : ∀ v, v < g.n → base v < g.n := fun v hv => by
    cases h : ev v with
    | true => exact (s.bs v hv h).1
    | false => rw [s.bo v hv h]; exact hv
  have hnl : ∀ k, k ≤ g.n → (lq ++ (List.range k).filter nwf).length ≤ 2048 := fun k hk => by
    have := List.length_filter_le nwf (List.range k)
    simp at this ⊢
    omega
  obtain ⟨I, hI⟩ : ∃ I : Nat → List Value → Heap → Prop, ∀ m xs h5, I m xs h5 ↔ ∃ (k : Nat) (xq2 : Value) (bk2 : Option Nat), xs = [.int .i64 k] ∧ k ≤ g.n ∧ m = g.n - k ∧ Le S h5 ∧ (IA h5 bs g.n fun v => ((if v < k then base2 v else base v : Nat) : Int)) ∧ (IA h5 bv g.n fun v => oI (via2 v)) ∧
      (BA h5 be g.n fun v => if v < k then ev2 v else ev v) ∧ BA h5 q g.n in2 ∧ h5.cell p 7 = some xq2 ∧ GQ S h5 xq2 (lq ++ (List.range k).filter nwf) bk2 ∧ bk2 ≠ some bs ∧ bk2 ≠ some bv ∧ bk2 ≠ some be ∧ bk2 ≠ some q ∧ bk2 ≠ some p := ⟨_, fun _ _ _ => Iff.rfl⟩
  obtain ⟨c4, e4⟩ := C.c4
  obtain ⟨c6, e6⟩ := C.c6
  simp
  refine ⟨I, ⟨_, (hI _ _ _).2 ⟨0, xq, bk, rfl, by omega, rfl, l4, hs4.ext fun v _ => by simp, v4, he4.ext fun v _ => by simp, q4, hq74, by simpa using gq4, k1, k2, k3, hqk, hpk⟩⟩, ?_⟩
  clear l4 hs4 v4 he4 q4 hq74 gq4 k1 k2 k3 hqk hpk
  intro m X h5 hI1
  obtain ⟨k, xq2, bk2, hX, hk, rfl, l5, s5, v5, ee5, q5, hq75, gq5, k1, k2, k3, k4, k5⟩ := (hI _ _ _).1 hI1
  simp only [List.cons.injEq, and_true] at hX
  simp only [hX]
  have w1 : IntKind.i64.wrap ((k : Int) + 1) = ((k + 1 : Nat) : Int) := by rw [wrap_in (by omega) (by omega)]; rfl
  simp
  refine ⟨fun hlt => ?_, fun hge => ?_⟩
  · have hk' : (k : Int) < (g.n : Int) := by omega
    have hbk := bq k hlt
    have hbk' : ((base k : Nat) : Int) < (g.n : Int) := by omega
    have sk := s5.cell k hlt
    simp only [Nat.lt_irrefl, if_false] at sk
    have ek := ee5.cell k hlt
    simp only [Nat.lt_irrefl, if_false] at ek
    simp [l5.cell _ _ _ e4, hk', sk, hlt, hbk', q5.cell _ hbk]
    have hb2k : base2 k = if in2 (base k) = true then top else base k := by rw [hb2]; rfl
    have he2k : ev2 k = (ev k || in2 (base k)) := by rw [he2]; rfl
    have upB : ∀ v, (if v < k + 1 then base2 v else base v) = upd (fun v => if v < k then base2 v else base v) k (base2 k) v := fun v => by
      simp only [upd]
      by_cases h1 : v = k
      · subst h1; simp
      · rw [if_neg h1]
        by_cases h2 : v < k
        · rw [if_pos h2, if_pos (by omega)]
        · rw [if_neg h2, if_neg (by omega)]
    have upE : ∀ v, (if v < k + 1 then ev2 v else ev v) = upd (fun v => if v < k then ev2 v else ev v) k (ev2 k) v := fun v => by
      simp only [upd]
      by_cases h1 : v = k
      · subst h1; simp
      · rw [if_neg h1]
        by_cases h2 : v < k
        · rw [if_pos h2, if_pos (by omega)]
        · rw [if_neg h2, if_neg (by omega)]
    have noE : ev2 k = ev k → BA h5 be g.n fun v => if v < k + 1 then ev2 v else ev v := fun h => ee5.ext fun v _ => by
      rw [upE]
      by_cases h1 : v = k
      · subst h1; simp [h]
      · rw [upd_ne _ _ h1]
    rw [ifV_bool]
    refine ⟨fun hin1 => ?_, fun hin0 => ?_⟩
    · rw [hin1] at hb2k he2k
      simp at hb2k he2k
      have l6 := l5.set_fresh fs k (.int .i64 top)
      have s6 : IA (h5.set bs k (.int .i64 top)) bs g.n fun v => ((if v < k + 1 then base2 v else base v : Nat) : Int) := (s5.set (i := k) (top : Int)).ext fun v _ => by
        have := upB v
        simp only [upd] at this ⊢
        rw [this, hb2k]
        split <;> rfl
      have v6 := v5.other n1.symm (i := k) (.int .i64 top)
      have ee6 := ee5.other n2.symm (i := k) (.int .i64 top)
      have q6 := q5.other hqs.symm (i := k) (.int .i64 top)
      have hq76 : (h5.set bs k (.int .i64 top)).cell p 7 = some xq2 := by rw [set_cell_nb _ _ _ _ hps]; exact hq75
      have gq6 := gq5.keep ((Keep.refl (fun b => b ≠ bs) h5).set (fun h => h rfl) k (.int .i64 top)) fun b hb e => k1 (by rw [hb, e])
      simp [s5.can hlt]
      generalize h5.set bs k (.int .i64 top) = h6 at l6 s6 v6 ee6 q6 hq76 gq6
      have ek6 := ee6.cell k hlt
      simp only [Nat.lt_irrefl, if_false] at ek6
      simp [l6.cell _ _ _ e6, hk', ek6]
      rw [ifV_bool]
      refine ⟨fun hnew => ?_, fun hold => ?_⟩
      · have hnew' : ev k = false := by simpa using hnew
        have l7 := l6.set_fresh fe k (.bool true)
        have s7 := s6.other n2 (i := k) (.bool true)
        have v7 := v6.other n3 (i := k) (.bool true)
        have ee7 : BA (h6.set be k (.bool true)) be g.n fun v => if v < k + 1 then ev2 v else ev v := (ee6.set (i := k) true).ext fun v _ => by
          rw [upE, he2k]
        have q7 := q6.other hqe.symm (i := k) (.bool true)
        have hq77 : (h6.set be k (.bool true)).cell p 7 = some xq2 := by rw [set_cell_nb _ _ _ _ hpe]; exact hq76
        have gq7 := gq6.keep ((Keep.refl (fun b => b ≠ be) h6).set (fun h => h rfl) k (.bool true)) fun b hb e => k3 (by rw [hb, e])
        simp [l6.cell _ _ _ e6, hk', ee6.can hlt]
        generalize h6.set be k (.bool true) = h7 at l7 s7 v7 ee7 q7 hq77 gq7
        simp [hq77]
        intro z hz
        have l8 := l7.new hz #[.int .i64 k] 3
        have gq8 := gq7.keep ((Keep.refl (fun _ => True) h7).new hz #[.int .i64 k] 3) (fun _ _ => trivial)
        have zs : bs ≠ z := hz.nei s7.info
        have zv : bv ≠ z := hz.nei v7.info
        have ze : be ≠ z := hz.nei ee7.info
        have zq : q ≠ z := hz.nei q7.info
        have zp : p ≠ z := hz.nei (l7.info _ _ ip)
        refine AP_queue (i := k) el_26 gq8 l8 (by have := hnl k hk; omega) (by simp) ?_
        intro x' h9 bk' gq9 l9 hbk kp
        have kk : ∀ (b : Nat) (y : TypeId × Nat), b ≠ z → bk2 ≠ some b → h7.info b = some y → bk' ≠ some b := fun b y h1 h2 h3 => by
          rcases hbk with rfl | ⟨r', rfl, hr'⟩
          · exact h2
          · exact fun e => hr'.nei (x := y) (by rw [new_info_ne _ h1]; exact h3) (by cases e; rfl)
        have j1 := kk bs _ zs k1 s7.info
        have j2 := kk bv _ zv k2 v7.info
        have j3 := kk be _ ze k3 ee7.info
        have j4 := kk q _ zq k4 q7.info
        have j5 := kk p _ zp k5 (l7.info _ _ ip)
        have s9 := (s7.new hz _ _).keep kp j1
        have v9 := (v7.new hz _ _).keep kp j2
        have ee9 := (ee7.new hz _ _).keep kp j3
        have q9 := (q7.new hz _ _).keep kp j4
        have hnw : (List.range (k + 1)).filter nwf = (List.range k).filter nwf ++ [k] := by
          rw [newly_succ, if_pos (by simp [nwf, hnew', hin1])]
        obtain ⟨A9, c9, hx9, _⟩ := gq9.shape
        have fin : ∃ m', m' < g.n - k ∧ I m' [.int .i64 (IntKind.i64.wrap ((k : Int) + 1))] (h9.set p 7 x') := by
          refine ⟨_, by omega, (hI _ _ _).2 ⟨k + 1, x', bk', by rw [w1], by omega, rfl, l9.set_unknown c7 _, s9.other hps.symm _, v9.other hpv.symm _, ee9.other hpe.symm _, q9.other hqp.symm _, by simp, ?_, j1, j2, j3, j4, j5⟩⟩
          rw [hnw, ← List.append_assoc]
          exact gq9.keep ((Keep.refl (fun b => b ≠ p) h9).set (fun h => h rfl) _ _) fun b hb e => j5 (by rw [hb, e])
        rw [hx9] at fin ⊢
        simp [can_info (l9.info _ _ ip)]
        simp at fin
        exact fin
      · have hold' : ev k = true := by simpa using hold
        refine ⟨_, ?_, (hI _ _ _).2 ⟨k + 1, xq2, bk2, by rw [w1], by omega, rfl, l6, s6, v6, ?_, q6, hq76, ?_, k1, k2, k3, k4, k5⟩⟩
        · omega
        · exact ee6.ext fun v _ => by
            rw [upE]
            by_cases h1 : v = k
            · subst h1; simp [he2k, hold']
            · rw [upd_ne _ _ h1]
        · rw [newly_succ, if_neg (by simp [nwf, hold']), List.append_nil]
          exact gq6
    · rw [hin0] at hb2k he2k
      simp at hb2k he2k
      refine ⟨_, ?_, (hI _ _ _).2 ⟨k + 1, xq2, bk2, by rw [w1], by omega, rfl, l5, ?_, v5, noE he2k, q5, hq75, ?_, k1, k2, k3, k4, k5⟩⟩
      · omega
      · exact s5.ext fun v _ => by
          rw [upB]
          by_cases h1 : v = k
          · subst h1; simp [hb2k]
          · rw [upd_ne _ _ h1]
      · rw [newly_succ, if_neg (by simp [nwf, hin0]), List.append_nil]
        exact gq5
  · obtain rfl : k = g.n := by omega
    refine ⟨l5, base2, via2, ev2, Blo.P' ev P hit, lq ++ (List.range g.n).filter nwf, xq2, bk2, ⟨?_, fun v hv => ?_, fun v w hvw => ?_, ?_, fun v hv hv2 => ?_, fun v hv hv2 hv1 => ?_, _, rfl, ?_, fun v hv => ?_⟩, ⟨s5.ext fun v hv => by rw [if_pos hv], v5, ee5.ext fun v hv => by rw [if_pos hv]⟩, hq75, gq5, k1, k2, k3⟩
    · rw [hb2, he2]; exact H.sr
    · rw [he2]; simp [Blo.ev', hv]
    · rw [hb2]; simp [Blo.base', hvw]
    · have key : ∀ {x y : Nat} {pl ql : List Nat} {c d : Nat}, Shr g by_ r base via ev P i x y top pl c ql d via2 in2 hit → Blo.base' base in2 top x = top := fun {x y pl ql c d} H => by
        obtain ⟨ll, hl⟩ := s.head H.e.ltx H.ea
        have h1 := H.pa.eq
        rw [hl] at h1
        cases pl with
        | nil =>
          obtain ⟨l2, h2⟩ := s.head H.pa.lt H.pa.ce
          rw [h2] at h1
          simp at h1
          exact Shr.b'_top (by rw [h1.1]; exact H.pa.cb)
        | cons z pl =>
          simp at h1
          exact (H.b'_p (x := x) (by rw [h1.1]; simp)).1
      rw [hb2, key H, key H.symm]
    · rw [he2] at hv2
      have h1 : ev v = false := by simp [Blo.ev'] at hv2; exact hv2.1
      refine H.vs v (fun h => ?_) fun h => ?_
      · rw [(H.px h).2.1] at h1; cases h1
      · rw [(H.symm.px h).2.1] at h1; cases h1
    · rw [he2] at hv2
      simp [Blo.ev', hv1] at hv2
      simp [nwf, hv, hv1, hv2]
    · exact List.nodup_range.filter _
    · simp [nwf] at hv
      exact ⟨hv.1, hv.2.1, by rw [he2]; simp [Blo.ev', hv.2.2]⟩
end

end Go.Proofs.Ythchjolcjicpgaa

/- blossom: the contract of begin. -/
namespace Go.Proofs.Ythchjolcjicpgaa
open Go.HW Blo

/-- The static heap of one search. -/
def seS (S : Heap) (p bs bv be n : Nat) : Heap := ((S.set p 4 (.slice (some ⟨bs, 0, none⟩) n n)).set p 5 (.slice (some ⟨bv, 0, none⟩) n n)).set p 6 (.slice (some ⟨be, 0, none⟩) n n)

/-- What of the struct is not known between two searches. -/
structure NoS (S : Heap) (p : Nat) : Prop where
  ip : S.info p = some (101, 8)
  c4 : S.cell p 4 = none
  c5 : S.cell p 5 = none
  c6 : S.cell p 6 = none
  c7 : S.cell p 7 = none

theorem seS_le {S : Heap} {p : Nat} (o : NoS S p) (bs bv be n : Nat) : Le S (seS S p bs bv be n) := by
  have h1 : (S.set p 4 (.slice (some ⟨bs, 0, none⟩) n n)).cell p 5 = none := by simp [o.c5]
  have h2 : ((S.set p 4 (.slice (some ⟨bs, 0, none⟩) n n)).set p 5 (.slice (some ⟨bv, 0, none⟩) n n)).cell p 6 = none := by simp [o.c6]
  exact ((Le.set_none o.c4 _).trans (Le.set_none h1 _)).trans (Le.set_none h2 _)
theorem seS_fresh {S : Heap} {p b : Nat} (f : S.fresh b) (hne : b ≠ p) (bs bv be n : Nat) : (seS S p bs bv be n).fresh b := fresh_set (fresh_set (fresh_set f hne) hne) hne
theorem seS_bc (S : Heap) (p bs bv be n : Nat) : BC (seS S p bs bv be n) p bs bv be n := ⟨⟨n, by simp [seS]⟩, ⟨n, by simp [seS]⟩, ⟨n, by simp [seS]⟩⟩

theorem begin_c {S : Heap} {p bb : Nat} {g : Gr} {es : List RE} {by_ : Nat → Option Nat} {nx : Nat → List Nat} (a : BS S p bb g es by_ nx) (o : NoS S p) {r : Nat} (hr : r < g.n) :
    HCalls Try.prog 90 #[.pointer (some ⟨p, 0, none⟩), .int .i64 r] S fun en h' => en = .returned (.tuple #[]) ∧ ∃ bs bv be xq bk, S.fresh bs ∧ S.fresh bv ∧ S.fresh be ∧ bs ≠ bv ∧ bs ≠ be ∧ bv ≠ be ∧ Le (seS S p bs bv be g.n) h' ∧
      AR h' bs bv be g.n (fun v => v) (fun _ => none) (fun v => decide (v = r)) ∧ h'.cell p 7 = some xq ∧ GQ (seS S p bs bv be g.n) h' xq [r] bk ∧ bk ≠ some bs ∧ bk ≠ some bv ∧ bk ≠ some be := by
  apply H90
  unfold F90
  have hn := a.n1
  obtain ⟨R, hR⟩ : ∃ R : Ending → Heap → Prop, ∀ en h', R en h' ↔ (en = .returned (.tuple #[]) ∧ ∃ bs bv be xq bk, S.fresh bs ∧ S.fresh bv ∧ S.fresh be ∧ bs ≠ bv ∧ bs ≠ be ∧ bv ≠ be ∧ Le (seS S p bs bv be g.n) h' ∧
      AR h' bs bv be g.n (fun v => v) (fun _ => none) (fun v => decide (v = r)) ∧ h'.cell p 7 = some xq ∧ GQ (seS S p bs bv be g.n) h' xq [r] bk ∧ bk ≠ some bs ∧ bk ≠ some bv ∧ bk ≠ some be) := ⟨_, fun _ _ => Iff.rfl⟩
  have hRe : (fun en h' => (en = .returned (.tuple #[]) ∧ ∃ bs bv be xq bk, S.fresh bs ∧ S.fresh bv ∧ S.fresh be ∧ bs ≠ bv ∧ bs ≠ be ∧ bv ≠ be ∧ Le (seS S p bs bv be g.n) h' ∧
      AR h' bs bv be g.n (fun v => v) (fun _ => none) (fun v => decide (v = r)) ∧ h'.cell p 7 = some xq ∧ GQ (seS S p bs bv be g.n) h' xq [r] bk ∧ bk ≠ some bs ∧ bk ≠ some bv ∧ bk ≠ some be)) = R := by funext en h'; exact propext (hR en h').symm
  rw [hRe]
  clear hRe
  simp [-st_26, -st_74, a.c0, ms_26 g.n (by omega) (by omega), ms_74 g.n (by omega) (by omega)]
  intro bs hbs bv hbv be hbe
  have l1 := Heap.le_new hbs (zrow #[.int .i64 0] g.n) 3
  have s1 := GA.fresh (Value.int .i64) 3 S bs g.n 0
  have fv := hbv.le l1
  have nsv : bs ≠ bv := hbv.nei s1.info
  have l2 := l1.new hbv (zrow #[.int .i64 0] g.n) 3
  have s2 := s1.new hbv (zrow #[.int .i64 0] g.n) 3
  have v2 := GA.fresh (Value.int .i64) 3 (S.new bs (zrow #[.int .i64 0] g.n) 3) bv g.n 0
  have fe := hbe.le l2
  have nse : bs ≠ be := hbe.nei s2.info
  have nve : bv ≠ be := hbe.nei v2.info
  have l3 := l2.new hbe (zrow #[.bool false] g.n) 4
  have s3 := s2.new hbe (zrow #[.bool false] g.n) 4
  have v3 := v2.new hbe (zrow #[.bool false] g.n) 4
  have e3 := GA.fresh Value.bool 4 ((S.new bs (zrow #[.int .i64 0] g.n) 3).new bv (zrow #[.int .i64 0] g.n) 3) be g.n false
  have hps : p ≠ bs := fun h => hbs.nei o.ip h
  have hpv : p ≠ bv := fun h => fv.nei o.ip h
  have hpe : p ≠ be := fun h => fe.nei o.ip h
  have u : ∀ k, (((S.new bs (zrow #[.int .i64 0] g.n) 3).new bv (zrow #[.int .i64 0] g.n) 3).new be (zrow #[.bool false] g.n) 4).cell p k = S.cell p k := fun k => by simp [hps, hpv, hpe]
  generalize ((S.new bs (zrow #[.int .i64 0] g.n) 3).new bv (zrow #[.int .i64 0] g.n) 3).new be (zrow #[.bool false] g.n) 4 = h3 at l3 s3 v3 e3 u
  have i3 := l3.info _ _ o.ip
  obtain ⟨h4, hh4⟩ : ∃ h4, h4 = h3.set p 4 (.slice (some ⟨bs, 0, none⟩) g.n g.n) := ⟨_, rfl⟩
  have t4 : stV T 26 (.pointer (some ⟨p, 4, none⟩)) (.slice (some ⟨bs, 0, none⟩) g.n g.n) h3 = some h4 := by rw [hh4]; simp [can_info i3]
  have l4 : Le h3 h4 := by rw [hh4]; exact Le.set_none (by rw [u, o.c4]) _
  obtain ⟨h5, hh5⟩ : ∃ h5, h5 = h4.set p 5 (.slice (some ⟨bv, 0, none⟩) g.n g.n) := ⟨_, rfl⟩
  have t5 : stV T 26 (.pointer (some ⟨p, 5, none⟩)) (.slice (some ⟨bv, 0, none⟩) g.n g.n) h4 = some h5 := by rw [hh5, hh4]; simp [can_info i3]
  have l5 : Le h4 h5 := by rw [hh5]; exact Le.set_none (by rw [hh4]; simp [u, o.c5]) _
  obtain ⟨h6, hh6⟩ : ∃ h6, h6 = h5.set p 6 (.slice (some ⟨be, 0, none⟩) g.n g.n) := ⟨_, rfl⟩
  have t6 : stV T 74 (.pointer (some ⟨p, 6, none⟩)) (.slice (some ⟨be, 0, none⟩) g.n g.n) h5 = some h6 := by rw [hh6, hh5, hh4]; simp [can_info i3]
  have L6 : Le (seS S p bs bv be g.n) h6 := by rw [hh6, hh5, hh4]; exact ((l3.sets _ _ _).sets _ _ _).sets _ _ _
  have s6 : IA h6 bs g.n fun _ => 0 := by rw [hh6, hh5, hh4]; exact ((s3.other hps.symm _).other hps.symm _).other hps.symm _
  have v6 : IA h6 bv g.n fun _ => 0 := by rw [hh6, hh5, hh4]; exact ((v3.other hpv.symm _).other hpv.symm _).other hpv.symm _
  have e6 : BA h6 be g.n fun _ => false := by rw [hh6, hh5, hh4]; exact ((e3.other hpe.symm _).other hpe.symm _).other hpe.symm _
  rw [t4, PV_some]
  refine ⟨l4, fun _ => ?_⟩
  rw [t5, PV_some]
  refine ⟨l5, fun _ => ?_⟩
  rw [t6, PV_some]
  intro _
  clear t4 t5 t6 hh4 hh5 hh6 l4 l5 l3 l2 l1 u s3 v3 e3 s2 v2 s1
  have F1 := seS_fresh hbs hps.symm bs bv be g.n
  have F2 := seS_fresh fv hpv.symm bs bv be g.n
  have F3 := seS_fresh fe hpe.symm bs bv be g.n
  have B := seS_bc S p bs bv be g.n
  have ip1 : (seS S p bs bv be g.n).info p = some (101, 8) := o.ip
  have c71 : (seS S p bs bv be g.n).cell p 7 = none := by simp [seS, o.c7]
  obtain ⟨c4, x4⟩ := B.c4
  obtain ⟨c5, x5⟩ := B.c5
  obtain ⟨c6, x6⟩ := B.c6
  have hR' : ∀ h', Le (seS S p bs bv be g.n) h' → AR h' bs bv be g.n (fun v => v) (fun _ => none) (fun v => decide (v = r)) → ∀ xq bk, h'.cell p 7 = some xq → GQ (seS S p bs bv be g.n) h' xq [r] bk → bk ≠ some bs → bk ≠ some bv → bk ≠ some be → R (.returned (.tuple #[])) h' :=
    fun h' q1 q2 xq bk q3 q4 q5 q6 q7 => (hR _ _).2 ⟨rfl, bs, bv, be, xq, bk, hbs, fv, fe, nsv, nse, nve, q1, q2, q3, q4, q5, q6, q7⟩
  clear hR
  generalize seS S p bs bv be g.n = Q at *
  obtain ⟨I, hI⟩ : ∃ I : Nat → List Value → Heap → Prop, ∀ m xs h7, I m xs h7 ↔ ∃ (k : Nat) (f f2 : Nat → Int), xs = [.int .i64 k] ∧ k ≤ g.n ∧ m = g.n - k ∧ Le Q h7 ∧ IA h7 bs g.n f ∧ IA h7 bv g.n f2 ∧ (∀ v, v < k → f v = v ∧ f2 v = -1) ∧ BA h7 be g.n fun _ => false := ⟨_, fun _ _ _ => Iff.rfl⟩
  refine ⟨I, ⟨_, (hI _ _ _).2 ⟨0, _, _, rfl, by omega, rfl, L6, s6, v6, fun v h => by omega, e6⟩⟩, ?_⟩
  clear L6 s6 v6 e6
  intro m X h7 hI1
  obtain ⟨k, f, f2, hX, hk, rfl, l7, s7, v7, hf, e7⟩ := (hI _ _ _).1 hI1
  simp only [List.cons.injEq, and_true] at hX
  simp only [hX]
  have w1 : IntKind.i64.wrap ((k : Int) + 1) = ((k + 1 : Nat) : Int) := by rw [wrap_in (by omega) (by omega)]; rfl
  simp
  refine ⟨fun hlt => ?_, fun hge => ?_⟩
  · have hk' : (k : Int) < (g.n : Int) := by omega
    have v8 := v7.other nsv.symm (i := k) (.int .i64 (k : Int))
    simp [l7.cell _ _ _ x4, l7.cell _ _ _ x5, hlt, s7.can hlt, v7.can hlt]
    intro _ _
    refine ⟨_, ?_, (hI _ _ _).2 ⟨k + 1, _, _, by rw [w1], by omega, rfl, (l7.set_fresh F1 _ _).set_fresh F2 _ _, (s7.set (i := k) (k : Int)).other nsv (i := k) (.int .i64 (-1)), v8.set (i := k) (-1), fun v hv => ?_, (e7.other nse.symm _).other nve.symm _⟩⟩
    · omega
    · by_cases h : v = k
      · subst h; simp
      · rw [upd_ne _ _ h, upd_ne _ _ h]; exact hf v (by omega)
  · obtain rfl : k = g.n := by omega
    have hr' : (r : Int) < (g.n : Int) := by omega
    simp [l7.cell _ _ _ x6, hr', e7.can hr]
    have l8 := l7.set_fresh F3 r (.bool true)
    have e8 := e7.set (i := r) true
    have s8 := s7.other nse (i := r) (.bool true)
    have v8 := v7.other nve (i := r) (.bool true)
    generalize h7.set be r (.bool true) = h8 at l8 e8 s8 v8
    intro z hz
    have zs : bs ≠ z := hz.nei s8.info
    have zv : bv ≠ z := hz.nei v8.info
    have ze : be ≠ z := hz.nei e8.info
    have zp : p ≠ z := hz.nei (l8.info _ _ ip1)
    have l9 := l8.new hz #[.int .i64 r] 3
    have i9 : (h8.new z #[.int .i64 r] 3).info p = some (101, 8) := l9.info _ _ ip1
    simp [can_info (l8.info _ _ ip1), zp]
    refine hR' _ (l9.set_unknown c71 _) ⟨?_, ?_, ?_⟩ (.slice (some ⟨z, 0, none⟩) 1 1) (some z) (by simp) ⟨hz.le l8, 0, 1, 1, rfl, by simp, by simp [zp.symm], by omega, fun j i hj => ?_⟩ (by simp [zs.symm]) (by simp [zv.symm]) (by simp [ze.symm])
    · exact ((s8.new hz _ _).other hps.symm _).ext fun v hv => (hf v hv).1
    · exact ((v8.new hz _ _).other hpv.symm _).ext fun v hv => by rw [(hf v hv).2]; rfl
    · refine ((e8.new hz _ _).other hpe.symm _).ext fun v hv => ?_
      simp only [upd]
      by_cases h : v = r <;> simp [h]
    · match j, hj with
      | 0, hj => cases hj; simp [zp.symm]
      | j + 1, hj => simp at hj

end Go.Proofs.Ythchjolcjicpgaa

/- blossom: the contract of grow. -/
namespace Go.Proofs.Ythchjolcjicpgaa
open Go.HW Blo

/-- What a search leaves. -/
def GroR (S : Heap) (p : Nat) (g : Gr) (by_ : Nat → Option Nat) (r : Nat) (en : Ending) (h' : Heap) : Prop :=
  ∃ (bs bv be : Nat) (base : Nat → Nat) (via : Nat → Option Nat) (ev : Nat → Bool) (P : Nat → List Nat), S.fresh bs ∧ S.fresh bv ∧ S.fresh be ∧ Le S h' ∧ Sr g by_ r base via ev P ∧
    ((∃ (w i v c : Nat), en = .returned (.int .i64 w) ∧ g.E i v w ∧ ev v = true ∧ ev w = false ∧ via w = none ∧ by_ w = none ∧ h'.cell p 5 = some (.slice (some ⟨bv, 0, none⟩) g.n c) ∧ IA h' bv g.n fun u => oI (upd via w (some i) u)) ∨
     (∃ c : Nat, en = .returned (.int .i64 (-1)) ∧ (Scan g base via ev fun _ _ => False) ∧ h'.cell p 6 = some (.slice (some ⟨be, 0, none⟩) g.n c) ∧ BA h' be g.n ev))

theorem _root_.Go.HW.GQ.set_other {S h : Heap} {x : Value} {l : List Nat} {bk : Option Nat} (g : GQ S h x l bk) {b : Nat} (hb : bk ≠ some b) (i : Nat) (v : Value) : GQ S (h.set b i v) x l bk :=
  g.keep ((Keep.refl (fun b' => b' ≠ b) h).set (fun h => h rfl) i v) fun b' hb' e => hb (by rw [hb', e])

/-- The state of one search. -/
structure GS (Q h : Heap) (p bs bv be : Nat) (g : Gr) (by_ : Nat → Option Nat) (r : Nat) (base : Nat → Nat) (via : Nat → Option Nat) (ev : Nat → Bool) (P : Nat → List Nat) (lq : List Nat) (M : Nat) : Prop where
  l : Le Q h
  s : Sr g by_ r base via ev P
  A : AR h bs bv be g.n base via ev
  q : ∃ xq bk, h.cell p 7 = some xq ∧ GQ Q h xq lq bk ∧ bk ≠ some bs ∧ bk ≠ some bv ∧ bk ≠ some be
  ql : ∀ v, v ∈ lq → v < g.n ∧ ev v = true
  sz : lq.length + Pair.unseen g.n ev ≤ M

theorem oI_eq {o : Option Nat} {i : Nat} : oI o = i ↔ o = some i := by
  cases o with
  | none => simp [oI]
  | some k => simp [oI]; omega

theorem grow_c {S : Heap} {p bb : Nat} {g : Gr} {es : List RE} {by_ : Nat → Option Nat} {nx : Nat → List Nat} (a : BS S p bb g es by_ nx) (o : NoS S p) (M : Mat g by_) {r : Nat} (hr : r < g.n) (hb : by_ r = none) :
    HCalls Try.prog 56 #[.pointer (some ⟨p, 0, none⟩), .int .i64 r] S fun en h' => GroR S p g by_ r en h' := by
  apply H56
  unfold F56
  obtain ⟨R, hR⟩ : ∃ R : Ending → Heap → Prop, ∀ en h', R en h' ↔ GroR S p g by_ r en h' := ⟨_, fun _ _ => Iff.rfl⟩
  have hRe : (fun en h' => GroR S p g by_ r en h') = R := by funext en h'; exact propext (hR en h').symm
  rw [hRe]
  clear hRe
  have hn := a.n1
  refine CALL_mk en90 (begin_c a o hr) ?_
  rintro en h1 ⟨rfl, bs, bv, be, xq, bk, fs0, fv0, fe0, n1, n2, n3, l1, A1, hq1, gq1, k1, k2, k3⟩
  have hps : p ≠ bs := fun h => fs0.nei o.ip h
  have hpv : p ≠ bv := fun h => fv0.nei o.ip h
  have hpe : p ≠ be := fun h => fe0.nei o.ip h
  have fs := seS_fresh fs0 hps.symm bs bv be g.n
  have fv := seS_fresh fv0 hpv.symm bs bv be g.n
  have fe := seS_fresh fe0 hpe.symm bs bv be g.n
  have C := seS_bc S p bs bv be g.n
  have ip : (seS S p bs bv be g.n).info p = some (101, 8) := o.ip
  have c7 : (seS S p bs bv be g.n).cell p 7 = none := by simp [seS, o.c7]
  have lSQ := seS_le o bs bv be g.n
  have b := a.le lSQ
  have hRf : ∀ h' (base : Nat → Nat) (via : Nat → Option Nat) (ev : Nat → Bool) (P : Nat → List Nat) (w i v c : Nat), Le (seS S p bs bv be g.n) h' → Sr g by_ r base via ev P → g.E i v w → ev v = true → ev w = false → via w = none → by_ w = none → h'.cell p 5 = some (.slice (some ⟨bv, 0, none⟩) g.n c) → (IA h' bv g.n fun u => oI (upd via w (some i) u)) → R (.returned (.int .i64 w)) h' :=
    fun h' base via ev P w i v c q1 q2 q3 q4 q5 q6 q7 q8 q9 => (hR _ _).2 ⟨bs, bv, be, base, via, ev, P, fs0, fv0, fe0, lSQ.trans q1, q2, .inl ⟨w, i, v, c, rfl, q3, q4, q5, q6, q7, q8, q9⟩⟩
  have hRn : ∀ h' (base : Nat → Nat) (via : Nat → Option Nat) (ev : Nat → Bool) (P : Nat → List Nat) (c : Nat), Le (seS S p bs bv be g.n) h' → Sr g by_ r base via ev P → (Scan g base via ev fun _ _ => False) → h'.cell p 6 = some (.slice (some ⟨be, 0, none⟩) g.n c) → BA h' be g.n ev → R (.returned (.int .i64 (-1))) h' :=
    fun h' base via ev P c q1 q2 q3 q4 q5 => (hR _ _).2 ⟨bs, bv, be, base, via, ev, P, fs0, fv0, fe0, lSQ.trans q1, q2, .inr ⟨c, rfl, q3, q4, q5⟩⟩
  clear hR lSQ a o fs0 fv0 fe0
  generalize seS S p bs bv be g.n = Q at *
  obtain ⟨I, hI⟩ : ∃ I : Nat → List Value → Heap → Prop, ∀ m xs h2, I m xs h2 ↔ xs = [] ∧ m ≤ g.n ∧ ∃ base via ev P lq, GS Q h2 p bs bv be g by_ r base via ev P lq m ∧ Scan g base via ev (fun x _ => x ∈ lq) := ⟨_, fun _ _ _ => Iff.rfl⟩
  have ini : GS Q h1 p bs bv be g by_ r (fun v => v) (fun _ => none) (fun v => decide (v = r)) (fun _ => [r]) [r] g.n := by
    refine ⟨l1, Sr.init M hr hb, A1, ⟨xq, bk, hq1, gq1, k1, k2, k3⟩, fun v hv => ?_, ?_⟩
    · simp at hv; subst hv; exact ⟨hr, by simp⟩
    · exact Nat.le_trans (unseen_new [r] (fun _ => false) (by simp) (by simp) (fun v hv => by simp at hv; subst hv; exact ⟨hr, rfl, by simp⟩)) (unseen_all _ _)
  refine ⟨I, ⟨_, (hI _ _ _).2 ⟨rfl, Nat.le_refl _, _, _, _, _, _, ini, ⟨fun i x y e ex hx => ?_⟩⟩⟩, ?_⟩
  · simp at ex hx; exact absurd ex hx
  clear ini hq1 gq1 k1 k2 k3 A1 l1 xq bk
  intro m X h2 hI1
  obtain ⟨-, hm, base, via, ev, P, lq, G, H⟩ := (hI _ _ _).1 hI1
  obtain ⟨xq, bk, hq7, gq, k1, k2, k3⟩ := G.q
  obtain ⟨c4, e4⟩ := C.c4
  obtain ⟨c5, e5⟩ := C.c5
  obtain ⟨c6, e6⟩ := C.c6
  obtain ⟨c3, e3⟩ := b.c3
  have hl := G.sz
  obtain ⟨Aq, cq, hxq, _⟩ := gq.shape
  rw [hxq] at hq7
  simp [hq7]
  refine ⟨fun hpos => ?_, fun hz => ?_⟩
  · cases lq with
    | nil => simp at hpos
    | cons v lq =>
      obtain ⟨hvn, hve⟩ := G.ql v (by simp)
      obtain ⟨bq, oq, cq', hx', hc⟩ := gq.first
      rw [hx'] at hxq
      cases hxq
      obtain ⟨x2, hs, gq2⟩ := GQ.pop (T := T) (t := 26) (e := 3) (d := .int .i64) (w1 := 1) (w2 := 24) (zz := #[.slice none 0 0]) (bb := 8) (z := #[.int .i64 0]) (by kernel_rfl) (by kernel_rfl) gq
      have hpk : bk ≠ some p := by
        rintro rfl
        obtain ⟨f, _⟩ := gq
        exact f.nei ip rfl
      obtain ⟨Aq2, cq2, hxq2, _⟩ := gq2.shape
      have hs' : slV T 26 (.slice (some ⟨bq, oq, none⟩) (lq.length + 1) cq) (some (.int .i64 1)) none none = some (.slice Aq2 lq.length cq2) := by rw [← hxq2, ← hs, hx']
      rw [hxq2] at gq2
      simp only [List.length_cons] at hq7
      simp [hc, hs']
      have l3 := G.l.set_unknown c7 (.slice Aq2 lq.length cq2)
      have A3 : AR (h2.set p 7 (.slice Aq2 lq.length cq2)) bs bv be g.n base via ev := ⟨G.A.hs.other hps.symm _, G.A.hv.other hpv.symm _, G.A.he.other hpe.symm _⟩
      have gq3 := gq2.set_other hpk 7 (.slice Aq2 lq.length cq2)
      have hq3 : (h2.set p 7 (.slice Aq2 lq.length cq2)).cell p 7 = some (.slice Aq2 lq.length cq2) := by simp
      obtain ⟨bo, co, e2, hrow⟩ := b.c2
      have q2 := G.l.cell _ _ _ e2
      simp [can_info (G.l.info _ _ ip)]
      have G3 : GS Q (h2.set p 7 (.slice Aq2 lq.length cq2)) p bs bv be g by_ r base via ev P lq (m - 1) := ⟨l3, G.s, A3, ⟨_, _, hq3, gq3, k1, k2, k3⟩, fun x hx => G.ql x (by simp [hx]), by simp at hl; omega⟩
      generalize h2.set p 7 (.slice Aq2 lq.length cq2) = h3 at l3 G3
      clear A3 gq3 hq3 gq2 gq hs hs' hxq2 hx' hc hq7
      have hm1 : m - 1 < m := by simp at hl; omega
      have H3 : Scan g base via ev (fun x i => x ∈ lq ∨ (x = v ∧ ∃ j : Nat, 0 ≤ j ∧ (nx v)[j]? = some i)) := H.mono fun x i y e h => by
        rcases List.mem_cons.1 h with rfl | h
        · right
          refine ⟨rfl, ?_⟩
          obtain ⟨j, hj⟩ := List.getElem?_of_mem ((b.nxm x e.ltx i).2 ⟨e.lt, by rcases e.or with h | h <;> rw [h.1, h.2] <;> first | exact e.ne | exact e.ne.symm, e.or.imp (·.1) (·.2)⟩)
          exact ⟨j, Nat.zero_le _, hj⟩
        · exact .inl h
      clear G H hl hpos hpk k1 k2 k3
      obtain ⟨x, ex, ⟨A, cx, rfl, hx⟩⟩ := hrow v hvn
      have hvl : (v : Int) < (g.n : Int) := by omega
      simp [q2, l3.cell _ _ _ e2, l3.cell _ _ _ ex, hvl]
      obtain ⟨I2, hI2⟩ : ∃ I2 : Nat → List Value → Heap → Prop, ∀ m1 xs h4, I2 m1 xs h4 ↔ ∃ (j : Nat) (base : Nat → Nat) (via : Nat → Option Nat) (ev : Nat → Bool) (P : Nat → List Nat) (lq : List Nat), xs = [.int .i64 j] ∧ j ≤ (nx v).length ∧ m1 = (nx v).length - j ∧ ev v = true ∧
        GS Q h4 p bs bv be g by_ r base via ev P lq (m - 1) ∧ Scan g base via ev (fun x i => x ∈ lq ∨ (x = v ∧ ∃ j' : Nat, j ≤ j' ∧ (nx v)[j']? = some i)) := ⟨_, fun _ _ _ => Iff.rfl⟩
      refine ⟨I2, ⟨_, (hI2 _ _ _).2 ⟨0, _, _, _, _, _, rfl, Nat.zero_le _, rfl, hve, G3, H3⟩⟩, ?_⟩
      clear G3 H3 l3 hve
      intro m1 X h4 hI3
      obtain ⟨j, base, via, ev, P, lq, hX, hj, rfl, hve, G, H⟩ := (hI2 _ _ _).1 hI3
      simp only [List.cons.injEq, and_true] at hX
      simp only [hX]
      have hll := b.nxl v hvn
      have w1 : IntKind.i64.wrap ((j : Int) + 1) = ((j + 1 : Nat) : Int) := by rw [wrap_in (by omega) (by omega)]; rfl
      simp
      refine ⟨fun hlt => ?_, fun hge => ?_⟩
      · obtain ⟨bo2, o2, rfl, hcell⟩ := hx j _ (List.getElem?_eq_getElem hlt)
        generalize hi : (nx v)[j] = i at hcell
        have hi' : (nx v)[j]? = some i := by rw [List.getElem?_eq_getElem hlt, hi]
        obtain ⟨him, hne, hor⟩ := (b.nxm v hvn i).1 (by rw [← hi]; exact List.getElem_mem hlt)
        obtain ⟨w, e⟩ : ∃ w, g.E i v w := by
          rcases hor with h | h
          · exact ⟨g.V i, him, by rw [← h]; exact hne, .inl ⟨h, rfl⟩⟩
          · exact ⟨g.U i, him, by rw [← h]; exact hne.symm, .inr ⟨rfl, h⟩⟩
        have hj' : (j : Int) < ((nx v).length : Int) := by omega
        simp [hj', hlt, G.l.cell _ _ _ hcell]
        refine CALL_mk en59 (other_e (b.le G.l) e) ?_
        rintro en h5 ⟨rfl, rfl⟩
        have hwl : (w : Int) < (g.n : Int) := by have := e.lty; omega
        have hwn := e.lty
        have hPn : ∀ x i', (x ∈ lq ∨ (x = v ∧ ∃ j' : Nat, j ≤ j' ∧ (nx v)[j']? = some i')) → (x ∈ lq ∨ (x = v ∧ ∃ j' : Nat, j + 1 ≤ j' ∧ (nx v)[j']? = some i')) ∨ (x = v ∧ i' = i) := by
          rintro x i' (h | ⟨h, j', h1, h2⟩)
          · exact .inl (.inl h)
          · by_cases e : j' = j
            · subst e
              rw [hi'] at h2
              cases h2
              exact .inr ⟨h, rfl⟩
            · exact .inl (.inr ⟨h, j', by omega, h2⟩)
        have nxt : ∀ h6 base2 via2 ev2 P2 lq2, ev2 v = true → GS Q h6 p bs bv be g by_ r base2 via2 ev2 P2 lq2 (m - 1) → Scan g base2 via2 ev2 (fun x i => x ∈ lq2 ∨ (x = v ∧ ∃ j' : Nat, j + 1 ≤ j' ∧ (nx v)[j']? = some i)) → ∃ m', m' < (nx v).length - j ∧ I2 m' [.int .i64 (IntKind.i64.wrap ((j : Int) + 1))] h6 :=
          fun h6 base2 via2 ev2 P2 lq2 q1 q2 q3 => ⟨_, by omega, (hI2 _ _ _).2 ⟨j + 1, base2, via2, ev2, P2, lq2, by rw [w1], hlt, rfl, q1, q2, q3⟩⟩
        have skip : ((ev w = false → via w ≠ none) ∧ (ev w = true → base v = base w)) → ∃ m', m' < (nx v).length - j ∧ I2 m' [.int .i64 (IntKind.i64.wrap ((j : Int) + 1))] h5 := fun hs =>
          nxt _ _ _ _ _ _ hve G (H.done hPn fun w' e' => by rw [e'.det e]; exact hs)
        simp only [endR_ret]
        refine JN.mk fun J hJ => ?_
        have hJt : base w = base v ∨ by_ v = some i → J (.bool true) h5 := fun h => by
          rw [hJ]; simp; exact skip (G.s.passed e hve h)
        have hJf : base w ≠ base v → J (.bool false) h5 := by
          intro hbne
          rw [hJ]
          clear hJ hJt J
          simp [G.l.cell _ _ _ e6, hwl, G.A.he.cell w hwn]
          rw [ifV_bool]
          refine ⟨fun hwe => ?_, fun hwo => ?_⟩
          · obtain ⟨xq, bk, hq7, gq, k1, k2, k3⟩ := G.q
            have e' : g.E i (g.U i) (g.V i) := ⟨him, hne, .inl ⟨rfl, rfl⟩⟩
            have exy : ev (g.U i) = true ∧ ev (g.V i) = true := by
              rcases e.or with h | h
              · rw [h.1, h.2]; exact ⟨hve, hwe⟩
              · rw [h.1, h.2]; exact ⟨hwe, hve⟩
            refine CALL_mk en91 (shrink_c b C G.s G.l G.A ip c7 fs fv fe n1 n2 n3 hq7 gq k1 k2 k3 (by have := G.sz; omega) e' rfl exy.1 exy.2) ?_
            rintro en h6 ⟨rfl, l6, base2, via2, ev2, P2, lq2, xq2, bk2, K, A6, hq76, gq6, j1, j2, j3⟩
            obtain ⟨nw, hlq2, nd, hnw⟩ := K.qu
            have hu := unseen_new nw ev nd K.evu fun v hv => hnw v hv
            have H6 : Scan g base2 via2 ev2 (fun x i => x ∈ lq2 ∨ (x = v ∧ ∃ j' : Nat, j ≤ j' ∧ (nx v)[j']? = some i)) := by
              refine H.more K.bas (fun y hy h => ?_) (fun y i' hy h1 h2 => .inl (K.new y hy h1 h2)) fun x i' h => h.imp_left fun h => by rw [hlq2]; simp [h]
              refine ⟨?_, fun h' => by rw [K.vsm y hy h]; exact h'⟩
              cases hy' : ev y with
              | false => rfl
              | true => rw [K.evu y hy'] at h; cases h
            have one : base2 v = base2 w := by
              have := K.one
              rcases e.or with h | h
              · rw [h.1, h.2] at this; exact this
              · rw [h.1, h.2] at this; exact this.symm
            simp
            refine nxt h6 base2 via2 ev2 P2 lq2 (K.evu v hve) ⟨l6, K.sr, A6, ⟨xq2, bk2, hq76, gq6, j1, j2, j3⟩, fun x hx => ?_, ?_⟩ (H6.done (v := v) (i0 := i) (fun x i' h => ?_) fun w' e' => ?_)
            · rw [hlq2] at hx
              rcases List.mem_append.1 hx with h | h
              · exact ⟨(G.ql x h).1, K.evu x (G.ql x h).2⟩
              · exact ⟨(hnw x h).1, (hnw x h).2.2⟩
            · have := G.sz
              rw [hlq2, List.length_append]
              omega
            · rcases h with h | ⟨h, j', h1, h2⟩
              · exact .inl (.inl h)
              · by_cases e : j' = j
                · subst e
                  rw [hi'] at h2
                  cases h2
                  exact .inr ⟨h, rfl⟩
                · exact .inl (.inr ⟨h, j', by omega, h2⟩)
            · rw [e'.det e]
              exact ⟨fun h => absurd (K.evu w hwe) (by rw [h]; simp), fun _ => one⟩
          · simp [G.l.cell _ _ _ e5, hwl, G.A.hv.cell w hwn]
            refine ⟨fun hneg => ?_, fun hpos => ?_⟩
            · have hvia := oI_neg.1 hneg
              simp [G.l.cell _ _ _ e5, hwl, G.A.hv.can hwn]
              have l6 := G.l.set_fresh fv w (.int .i64 i)
              have v6 : IA (h5.set bv w (.int .i64 i)) bv g.n fun u => oI (upd via w (some i) u) := (G.A.hv.set (i := w) (i : Int)).ext fun u _ => by simp only [upd]; split <;> rfl
              have s6 := G.A.hs.other n1 (i := w) (.int .i64 i)
              have ee6 := G.A.he.other n3.symm (i := w) (.int .i64 i)
              obtain ⟨xq, bk, hq7, gq, k1, k2, k3⟩ := G.q
              have gq6 := gq.set_other k2 w (.int .i64 i)
              have hq76 : (h5.set bv w (.int .i64 i)).cell p 7 = some xq := by rw [set_cell_nb _ _ _ _ hpv]; exact hq7
              generalize h5.set bv w (.int .i64 i) = h6 at l6 v6 s6 ee6 gq6 hq76
              simp [l6.cell _ _ _ e3, hwl, (b.le l6).hby w hwn]
              refine ⟨fun hfree => hRf h6 base via ev P w i v c5 l6 G.s e hve hwo hvia (oI_neg.1 hfree) (l6.cell _ _ _ e5) v6, fun hfull => ?_⟩
              have hbw : by_ w ≠ none := fun h => by rw [h] at hfull; simp at hfull
              refine CALL_mk en57 (mate_c (b.le l6) M hwn hbw) ?_
              rintro en h7 ⟨rfl, rfl⟩
              have hmn := M.lt hwn
              have hml : ((mate g by_ w : Nat) : Int) < (g.n : Int) := by omega
              simp [l6.cell _ _ _ e6, hml, ee6.can hmn]
              have l8 := l6.set_fresh fe (mate g by_ w) (.bool true)
              have v8 := v6.other n3 (i := mate g by_ w) (.bool true)
              have s8 := s6.other n2 (i := mate g by_ w) (.bool true)
              have ee8 := ee6.set (i := mate g by_ w) true
              have gq8 := gq6.set_other k3 (mate g by_ w) (.bool true)
              have hq78 : (h7.set be (mate g by_ w) (.bool true)).cell p 7 = some xq := by rw [set_cell_nb _ _ _ _ hpe]; exact hq76
              generalize h7.set be (mate g by_ w) (.bool true) = h8 at l8 v8 s8 ee8 gq8 hq78
              simp [hq78]
              intro z hz
              have l9 := l8.new hz #[.int .i64 (mate g by_ w)] 3
              have gq9 := gq8.keep ((Keep.refl (fun _ => True) h8).new hz #[.int .i64 (mate g by_ w)] 3) (fun _ _ => trivial)
              have zs : bs ≠ z := hz.nei s8.info
              have zv : bv ≠ z := hz.nei v8.info
              have ze : be ≠ z := hz.nei ee8.info
              have zp : p ≠ z := hz.nei (l8.info _ _ ip)
              have hpk : bk ≠ some p := by
                rintro rfl
                obtain ⟨f, _⟩ := gq8
                exact f.nei ip rfl
              refine AP_queue (i := mate g by_ w) el_26 gq9 l9 (by have := G.sz; omega) (by simp) ?_
              intro x' h10 bk' gq10 l10 hbk kp
              have kk : ∀ (b : Nat) (y : TypeId × Nat), b ≠ z → bk ≠ some b → h8.info b = some y → bk' ≠ some b := fun b y h1 h2 h3 => by
                rcases hbk with rfl | ⟨r', rfl, hr'⟩
                · exact h2
                · exact fun e => hr'.nei (x := y) (by rw [new_info_ne _ h1]; exact h3) (by cases e; rfl)
              have j1 := kk bs _ zs k1 s8.info
              have j2 := kk bv _ zv k2 v8.info
              have j3 := kk be _ ze k3 ee8.info
              have j5 := kk p _ zp hpk (l8.info _ _ ip)
              have s10 := (s8.new hz _ _).keep kp j1
              have v10 := (v8.new hz _ _).keep kp j2
              have ee10 := (ee8.new hz _ _).keep kp j3
              obtain ⟨A10, c10, hx10, _⟩ := gq10.shape
              have hmo := G.s.mate_odd hwn hvia hbw
              have hup : ∀ x, ev x = true → upd ev (mate g by_ w) true x = true := fun x h => by
                by_cases e : x = mate g by_ w
                · rw [e, upd_same]
                · rw [upd_ne _ _ e]; exact h
              have hu := unseen_new (n := g.n) (f2 := upd ev (mate g by_ w) true) [mate g by_ w] ev (by simp) hup fun x hx => by
                simp at hx; subst hx; exact ⟨hmn, hmo, by rw [upd_same]⟩
              have H6 : Scan g base (upd via w (some i)) (upd ev (mate g by_ w) true) (fun x i => x ∈ lq ++ [mate g by_ w] ∨ (x = v ∧ ∃ j' : Nat, j ≤ j' ∧ (nx v)[j']? = some i)) :=
                H.label (fun x i' h => h.imp_left fun h => by simp [h]) fun i' => .inl (by simp)
              have fin : ∃ m', m' < (nx v).length - j ∧ I2 m' [.int .i64 (IntKind.i64.wrap ((j : Int) + 1))] (h10.set p 7 x') := by
                refine nxt _ base (upd via w (some i)) (upd ev (mate g by_ w) true) (upd P (mate g by_ w) (mate g by_ w :: P v)) (lq ++ [mate g by_ w]) (hup v hve)
                  ⟨l10.set_unknown c7 _, G.s.label e hve hwo hvia hbw, ⟨s10.other hps.symm _, v10.other hpv.symm _, ee10.other hpe.symm _⟩, ⟨x', bk', by simp, gq10.set_other j5 _ _, j1, j2, j3⟩, fun x hx => ?_, ?_⟩ (H6.done (v := v) (i0 := i) (fun x i' h => ?_) fun w' e' => ?_)
                · rcases List.mem_append.1 hx with h | h
                  · exact ⟨(G.ql x h).1, hup x (G.ql x h).2⟩
                  · simp at h; subst h; exact ⟨hmn, by rw [upd_same]⟩
                · have := G.sz
                  simp at hu ⊢
                  omega
                · rcases h with h | ⟨h, j', h1, h2⟩
                  · exact .inl (.inl h)
                  · by_cases e : j' = j
                    · subst e
                      rw [hi'] at h2
                      cases h2
                      exact .inr ⟨h, rfl⟩
                    · exact .inl (.inr ⟨h, j', by omega, h2⟩)
                · rw [e'.det e]
                  refine ⟨fun _ => by rw [upd_same]; simp, fun h => ?_⟩
                  rw [upd_ne _ _ (M.ne hwn hbw).symm, hwo] at h
                  cases h
              rw [hx10] at fin ⊢
              simp [can_info (l10.info _ _ ip)]
              simp at fin
              exact fin
            · have hv2 : via w ≠ none := fun h => by rw [h] at hpos; simp at hpos
              exact skip ⟨fun _ => hv2, fun h => by rw [hwo] at h; cases h⟩
        clear hJ
        simp [G.l.cell _ _ _ e4, hwl, hvl, G.A.hs.cell w hwn, G.A.hs.cell v hvn]
        refine ⟨fun h => hJt (.inl (by omega)), fun h => ?_⟩
        simp [G.l.cell _ _ _ e3, hvl, (b.le G.l).hby v hvn]
        by_cases hbi : by_ v = some i
        · simp [hbi]; exact hJt (.inr hbi)
        · have : ¬ oI (by_ v) = (i : Int) := fun h => hbi (oI_eq.1 h)
          simp [this]; exact hJf (by omega)
      · refine ⟨_, hm1, (hI _ _ _).2 ⟨rfl, by omega, base, via, ev, P, lq, G, H.mono fun x i y e h => ?_⟩⟩
        rcases h with h | ⟨_, j', h1, h2⟩
        · exact h
        · rw [List.getElem?_eq_none (by omega)] at h2; cases h2
  · have : lq = [] := by
      cases lq with
      | nil => rfl
      | cons v l => simp at hz
    subst this
    refine hRn _ base via ev P c6 G.l G.s ⟨fun i x y e ex hx => ?_⟩ (G.l.cell _ _ _ e6) G.A.he
    have := H.ok i x y e ex (by simp)
    simpa using this

end Go.Proofs.Ythchjolcjicpgaa

/- blossom: the contract of turn. -/
namespace Go.Proofs.Ythchjolcjicpgaa
open Go.HW Blo

theorem _root_.Go.HW.HCalls.weak {P : Program} {f : FuncId} {args : Array Value} {h : Heap} {R R' : Ending → Heap → Prop} (c : HCalls P f args h R)
    (hr : ∀ e h', R e h' → ∃ h2, Le h2 h' ∧ R' e h2) : HCalls P f args h R' :=
  fun W0 w s => (c W0 w s).mono fun e w' ⟨_, s', r⟩ => let ⟨h2, l, r2⟩ := hr e _ r; ⟨h2, s'.le l, r2⟩

/-- The search's struct, without the matching. -/
structure BS0 (S : Heap) (p bb : Nat) (g : Gr) (es : List RE) (nx : Nat → List Nat) : Prop where
  c0 : S.cell p 0 = some (.int .i64 g.n)
  c1 : ∃ x, S.cell p 1 = some x ∧ ES S x es
  c2 : ∃ bo c, S.cell p 2 = some (.slice (some ⟨bo, 0, none⟩) g.n c) ∧ ∀ v, v < g.n → ∃ x, S.cell bo v = some x ∧ IL S x (nx v)
  c3 : ∃ c, S.cell p 3 = some (.slice (some ⟨bb, 0, none⟩) g.n c)
  m : g.m = es.length
  ends : ∀ (i : Nat) (e : RE), es[i]? = some e → e.u = g.U i ∧ e.v = g.V i
  n1 : g.n ≤ 1024
  m1 : g.m ≤ 4096
  nxm : ∀ v, v < g.n → ∀ i, i ∈ nx v ↔ i < g.m ∧ g.U i ≠ g.V i ∧ (g.U i = v ∨ g.V i = v)
  nxl : ∀ v, v < g.n → (nx v).length ≤ 4096
  fb : S.fresh bb
  no : NoS S p

/-- The heap that tells the matching. -/
def putBy (S : Heap) (bb n : Nat) (b : Nat → Option Nat) : Heap :=
  ⟨fun x i => if x = bb then (if i < n then some (.int .i64 (oI (b i))) else none) else S.cell x i, fun x => if x = bb then some (3, n) else S.info x⟩

section
variable {S h : Heap} {p bb : Nat} {g : Gr} {es : List RE} {by_ : Nat → Option Nat} {nx : Nat → List Nat}

theorem BS0.bs (a : BS0 S p bb g es nx) (l : Le S h) (hb : IA h bb g.n fun v => oI (by_ v)) : BS h p bb g es by_ nx := by
  obtain ⟨x, hx, hE⟩ := a.c1
  obtain ⟨bo, c, h2, hr⟩ := a.c2
  obtain ⟨c3, h3⟩ := a.c3
  exact ⟨l.cell _ _ _ a.c0, ⟨x, l.cell _ _ _ hx, hE.le l⟩, ⟨bo, c, l.cell _ _ _ h2, fun v hv => let ⟨x, h4, h5⟩ := hr v hv; ⟨x, l.cell _ _ _ h4, h5.le l⟩⟩, ⟨c3, l.cell _ _ _ h3⟩, hb.cell, a.m, a.ends, a.n1, a.m1, a.nxm, a.nxl⟩

theorem BS0.hpb (a : BS0 S p bb g es nx) : p ≠ bb := fun h => a.fb.nei a.no.ip h

theorem putBy_le (a : BS0 S p bb g es nx) (b : Nat → Option Nat) : Le S (putBy S bb g.n b) := by
  refine ⟨fun x i v hv => ?_, fun x y hy => ?_⟩
  · have : x ≠ bb := a.fb.ne hv
    simp [putBy, this, hv]
  · have : x ≠ bb := a.fb.nei hy
    simp [putBy, this, hy]
theorem putBy_ia (S : Heap) (bb n : Nat) (b : Nat → Option Nat) : IA (putBy S bb n b) bb n fun v => oI (b v) := ⟨fun v hv => by simp [putBy, hv], by simp [putBy]⟩
theorem putBy_no (a : BS0 S p bb g es nx) (b : Nat → Option Nat) : NoS (putBy S bb g.n b) p := by
  have h := a.hpb
  have o := a.no
  exact ⟨by simp [putBy, h, o.ip], by simp [putBy, h, o.c4], by simp [putBy, h, o.c5], by simp [putBy, h, o.c6], by simp [putBy, h, o.c7]⟩
theorem putBy_of (l : Le S h) {b : Nat → Option Nat} {n : Nat} (hb : IA h bb n fun v => oI (b v)) : Le (putBy S bb n b) h := by
  refine ⟨fun x i v hv => ?_, fun x y hy => ?_⟩
  · simp only [putBy] at hv
    split at hv
    · next e =>
      subst e
      split at hv
      · next hi => cases hv; exact hb.cell i hi
      · cases hv
    · exact l.cell _ _ _ hv
  · simp only [putBy] at hy
    split at hy
    · next e => subst e; cases hy; exact hb.info
    · exact l.info _ _ hy

theorem mate_e (a : BS h p bb g es by_ nx) {i v u : Nat} (hb : by_ v = some i) (e : g.E i v u) : HCalls Try.prog 57 #[.pointer (some ⟨p, 0, none⟩), .int .i64 v] h fun e h' => h' = h ∧ e = .returned (.int .i64 u) := by
  apply H57
  unfold F57
  obtain ⟨c, h3⟩ := a.c3
  have hv := e.ltx
  have hv' : (v : Int) < (g.n : Int) := by omega
  simp [h3, hv', a.hby v hv, hb]
  refine CALL_mk en59 (other_e a e) ?_
  rintro en h' ⟨rfl, rfl⟩
  simp

theorem turn_no (l : Le S h) (hb : IA h bb g.n fun v => oI (by_ v)) : HCalls Try.prog 55 #[.pointer (some ⟨p, 0, none⟩), .int .i64 (-1)] h fun en h' => en = .returned (.tuple #[]) ∧ h' = putBy S bb g.n by_ := by
  suffices H : HCalls Try.prog 55 #[.pointer (some ⟨p, 0, none⟩), .int .i64 (-1)] h fun en h' => en = .returned (.tuple #[]) ∧ h' = h by
    refine H.weak ?_
    rintro e h' ⟨rfl, rfl⟩
    exact ⟨_, putBy_of l hb, rfl, rfl⟩
  apply H55
  unfold F55
  refine ⟨fun m xs h1 => xs = [.int .i64 (-1), undef] ∧ h1 = h, ⟨0, rfl, rfl⟩, ?_⟩
  rintro m X h1 ⟨hX, rfl⟩
  simp only [List.cons.injEq, and_true] at hX
  simp [hX.1]

variable {r : Nat} {base : Nat → Nat} {via via1 : Nat → Option Nat} {ev : Nat → Bool} {P : Nat → List Nat}

theorem turn_c (a : BS0 S p bb g es nx) (l : Le S h) (hb : IA h bb g.n fun v => oI (by_ v)) (s : Sr g by_ r base via ev P) {w i v c bv : Nat} (e : g.E i v w) (hv : ev v = true) (hw : ev w = false) (hfree : by_ w = none)
    (c5 : h.cell p 5 = some (.slice (some ⟨bv, 0, none⟩) g.n c)) (hvia : IA h bv g.n fun u => oI (via1 u)) (hvb : bv ≠ bb) (hw1 : via1 w = some i) (hv1 : ∀ x, x ∈ P v → x ≠ r → via1 (mate g by_ x) = via (mate g by_ x)) :
    HCalls Try.prog 55 #[.pointer (some ⟨p, 0, none⟩), .int .i64 w] h fun en h' => en = .returned (.tuple #[]) ∧ h' = putBy S bb g.n (flipL g by_ via1 (P v) w by_) := by
  suffices H : HCalls Try.prog 55 #[.pointer (some ⟨p, 0, none⟩), .int .i64 w] h fun en h' => en = .returned (.tuple #[]) ∧ Le S h' ∧ IA h' bb g.n fun u => oI (flipL g by_ via1 (P v) w by_ u) by
    refine H.weak ?_
    rintro e h' ⟨rfl, l', hb'⟩
    exact ⟨_, putBy_of l' hb', rfl, rfl⟩
  apply H55
  unfold F55
  have hn := a.n1
  obtain ⟨F, hF⟩ : ∃ F, F = flipL g by_ via1 (P v) w by_ := ⟨_, rfl⟩
  rw [← hF]
  obtain ⟨I, hI⟩ : ∃ I : Nat → List Value → Heap → Prop, ∀ m xs h1, I m xs h1 ↔ ∃ (b : Nat → Option Nat) (y : Value), Le S h1 ∧ (IA h1 bb g.n fun u => oI (b u)) ∧ h1.cell p 5 = some (.slice (some ⟨bv, 0, none⟩) g.n c) ∧ (IA h1 bv g.n fun u => oI (via1 u)) ∧
      ((xs = [.int .i64 (-1), y] ∧ b = F) ∨ (∃ w v i : Nat, xs = [.int .i64 w, y] ∧ m = (P v).length ∧ ev v = true ∧ Mid g by_ (P v) w b ∧ via1 w = some i ∧ g.E i w v ∧ flipL g by_ via1 (P v) w b = F ∧ ∀ x, x ∈ P v → x ≠ r → via1 (mate g by_ x) = via (mate g by_ x))) := ⟨_, fun _ _ _ => Iff.rfl⟩
  refine ⟨I, ⟨_, (hI _ _ _).2 ⟨by_, undef, l, hb, c5, hvia, .inr ⟨w, v, i, rfl, rfl, hv, s.mid0 e.ltx hv e.lty hw hfree, hw1, e.symm, hF.symm, hv1⟩⟩⟩, ?_⟩
  clear l hb c5 hvia hw1 hv1 hF e hv hw hfree
  intro m X h1 hI1
  obtain ⟨b, y, l1, hb, c5, hvia, ⟨hX, rfl⟩ | ⟨w, v, i, hX, rfl, hv, md, hi, e, hfl, hv1⟩⟩ := (hI _ _ _).1 hI1
  · simp only [List.cons.injEq, and_true] at hX
    simp [hX.1, l1, hb]
  · simp only [List.cons.injEq, and_true] at hX
    simp only [hX.1]
    have hwl := e.ltx
    have hvl := e.lty
    have hwl' : (w : Int) < (g.n : Int) := by omega
    have hvl' : (v : Int) < (g.n : Int) := by omega
    have B := a.bs l1 hb
    have hwi := hvia.cell w hwl
    simp only [hi, oI_some] at hwi
    simp [c5, hwl', hwi]
    refine CALL_mk en59 (other_e B e) ?_
    rintro en h2 ⟨rfl, rfl⟩
    simp only [endR_ret]
    obtain ⟨c3, e3⟩ := a.c3
    have e3 := l1.cell _ _ _ e3
    have hpb := a.hpb
    refine JN.mk fun J hJ => ?_
    -- what is written
    have fin : ∀ y : Int, (∃ m', m' < (P v).length ∧ ∀ h3, Le S h3 → (IA h3 bb g.n fun u => oI (upd (upd b w (via1 w)) v (via1 w) u)) → h3.cell p 5 = some (.slice (some ⟨bv, 0, none⟩) g.n c) → (IA h3 bv g.n fun u => oI (via1 u)) → I m' [.int .i64 y, .int .i64 y] h3) → J (.int .i64 y) h2 := by
      rintro y ⟨m', hm', hK⟩
      rw [hJ]
      have hb2 := hb.set (i := w) (i : Int)
      simp [e3, hwl', hvl', hb.can hwl, hb.can hvl]
      intro _ _
      refine ⟨m', hm', hK _ ((l1.set_fresh a.fb _ _).set_fresh a.fb _ _) ((hb2.set (i := v) (i : Int)).ext fun u hu => ?_) (by simp [hpb, c5]) ((hvia.other hvb _).other hvb _)⟩
      simp only [upd, hi]
      repeat' split
      all_goals rfl
    clear hJ
    simp [e3, hvl', hb.cell v hvl]
    by_cases hvr : v = r
    · subst hvr
      have : b v = none := by rw [(md.keep v (s.self hvl hv)).1]; exact s.rf
      simp [this]
      refine fin (-1) ⟨0, ?_, fun h3 q1 q2 q3 q4 => (hI _ _ _).2 ⟨_, _, q1, q2, q3, q4, .inl ⟨rfl, ?_⟩⟩⟩
      · rw [s.rp]; simp
      · rw [← hfl, s.rp]; rfl
    · obtain ⟨hbv, k, u, hk, hE, hu, hP⟩ := s.stp v hvl hv hvr
      obtain ⟨q, hq⟩ := Option.ne_none_iff_exists'.1 hbv
      have hbq : b v = some q := by rw [(md.keep v (s.self hvl hv)).1, hq]
      simp [hbq]
      refine ⟨CALL_mk en57 (mate_e B hbq (s.mat.edge hvl hq)) ?_, fun h => absurd h (by omega)⟩
      rintro en h3 ⟨rfl, rfl⟩
      simp only [endR_ret]
      refine fin (mate g by_ v) ⟨(P u).length, ?_, fun h3 q1 q2 q3 q4 => (hI _ _ _).2 ⟨_, _, q1, q2, q3, q4, .inr ⟨_, u, k, rfl, rfl, hu, s.flip_step hvl hv hbv hP md hi e, ?_, hE, ?_, ?_⟩⟩⟩
      · rw [hP]; simp
      · rw [hv1 v (s.self hvl hv) hvr, hk]
      · rw [← hfl, hP]; rfl
      · exact fun x hx => hv1 x (by rw [hP]; simp [hx])

end

end Go.Proofs.Ythchjolcjicpgaa
