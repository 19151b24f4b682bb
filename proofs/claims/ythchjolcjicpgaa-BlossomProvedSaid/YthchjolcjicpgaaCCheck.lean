/- The contract of graph.Check. -/
import Derived.Test.YthchjolcjicpgaaPred
import Derived.Test.YthchjolcjicpgaaFPair
namespace Go.Proofs.Ythchjolcjicpgaa
open Go.HW

theorem label_c (h : Heap) (e : RE) : HCalls Try.prog 87 #[.agg #[.int .i64 e.u, .int .i64 e.v, .int .i64 e.cap, .int .i64 e.cost]] h fun en h' => ∃ t : Bool, en = .returned (.bool t) ∧ Le h h' ∧ (t = true ↔ e.lab) := by
  apply H87
  unfold F87
  intro r hr
  have l := Heap.le_new hr #[.int .i64 e.u, .int .i64 e.v, .int .i64 e.cap, .int .i64 e.cost] 40
  simp [JN, l, RE.lab]
  omega

/-- What Check tells: the code and the place. -/
def ChkR (n : Int) (es : List RE) (c a : Int) : Prop :=
  ((n < 0 ∨ 1024 < n ∨ 4096 < (es.length : Int)) ∧ c = 3 ∧ a = 0) ∨
  (¬ (n < 0 ∨ 1024 < n ∨ 4096 < (es.length : Int)) ∧ ∃ (i : Nat) (e : RE), es[i]? = some e ∧ (∀ (k : Nat) (e : RE), k < i → es[k]? = some e → e.inn n ∧ e.lab) ∧ a = i ∧ ((¬ e.inn n ∧ c = 30) ∨ (e.inn n ∧ ¬ e.lab ∧ c = 31))) ∨
  (Fine n es ∧ c = 0 ∧ a = 0)

theorem ChkR.fine {n : Int} {es : List RE} {c a : Int} (h : ChkR n es c a) : c = 0 ↔ Fine n es := by
  rcases h with ⟨h, rfl, rfl⟩ | ⟨h, i, e, he, hk, rfl, h2⟩ | ⟨h, rfl, rfl⟩
  · exact ⟨fun h => by omega, fun f => by have := f.n0; have := f.n1; have := f.m; omega⟩
  · refine ⟨fun h => by omega, fun f => ?_⟩
    have := f.ok i e he
    rcases h2 with ⟨h2, _⟩ | ⟨_, h2, _⟩
    · exact (h2 this.1).elim
    · exact (h2 this.2).elim
  · exact ⟨fun _ => h, fun _ => rfl⟩
theorem ChkR.nil {n : Int} {es : List RE} {c a : Int} (h : ChkR n es c a) (he : es = []) : a = 0 := by
  rcases h with ⟨h, rfl, rfl⟩ | ⟨h, i, e, hi, _⟩ | ⟨h, rfl, rfl⟩
  · rfl
  · simp [he] at hi
  · rfl
theorem ChkR.same {n : Int} {es : List RE} {c a c' a' : Int} (h : ChkR n es c a) (h' : ChkR n es c' a') : c = c' ∧ a = a' := by
  rcases h with ⟨h, rfl, rfl⟩ | ⟨h, i, e, he, hk, rfl, h2⟩ | ⟨h, rfl, rfl⟩
  · rcases h' with ⟨h, rfl, rfl⟩ | ⟨h3, _⟩ | ⟨h3, rfl, rfl⟩
    · exact ⟨rfl, rfl⟩
    · exact (h3 h).elim
    · have := h3.n0; have := h3.n1; have := h3.m; omega
  · rcases h' with ⟨h3, _⟩ | ⟨h3, i', e', he', hk', rfl, h2'⟩ | ⟨h3, rfl, rfl⟩
    · exact (h h3).elim
    · have bad : ¬ (e.inn n ∧ e.lab) := by rcases h2 with ⟨h2, _⟩ | ⟨_, h2, _⟩ <;> exact fun h => h2 (by first | exact h.1 | exact h.2)
      have bad' : ¬ (e'.inn n ∧ e'.lab) := by rcases h2' with ⟨h2, _⟩ | ⟨_, h2, _⟩ <;> exact fun h => h2 (by first | exact h.1 | exact h.2)
      have hi : i = i' := by
        rcases Nat.lt_trichotomy i i' with h | h | h
        · exact (bad (hk' i e h he)).elim
        · exact h
        · exact (bad' (hk i' e' h he')).elim
      subst hi
      rw [he] at he'
      cases he'
      refine ⟨?_, rfl⟩
      rcases h2 with ⟨h2, rfl⟩ | ⟨h2, _, rfl⟩ <;> rcases h2' with ⟨h4, rfl⟩ | ⟨h4, _, rfl⟩
      · rfl
      · exact (h2 h4).elim
      · exact (h4 h2).elim
      · rfl
    · have := h3.ok i e he
      rcases h2 with ⟨h2, _⟩ | ⟨_, h2, _⟩
      · exact (h2 this.1).elim
      · exact (h2 this.2).elim
  · rcases h' with ⟨h3, _⟩ | ⟨h3, i', e', he', hk', rfl, h2⟩ | ⟨h3, rfl, rfl⟩
    · have := h.n0; have := h.n1; have := h.m; omega
    · have := h.ok i' e' he'
      rcases h2 with ⟨h2, _⟩ | ⟨_, h2, _⟩
      · exact (h2 this.1).elim
      · exact (h2 this.2).elim
    · exact ⟨rfl, rfl⟩

theorem check_f {h : Heap} {n : Int} {x : Value} {es : List RE} {R : Ending → Heap → Prop} (hx : ES h x es)
    (hR : ∀ (c a : Int) (h' : Heap), Le h h' → ChkR n es c a → R (.returned (.agg #[.int .i64 c, .int .i64 a])) h') : F44 (.agg #[.int .i64 n, x]) R h := by
  unfold F44
  intro r hr r1 hr1
  obtain ⟨S, hS⟩ : ∃ S, S = h.new r (Value.cells (.agg #[.int .i64 n, x])) 25 := ⟨_, rfl⟩
  rw [← hS] at hr1 ⊢
  have lS : Le h S := by rw [hS]; exact Heap.le_new hr _ _
  have c0 : S.cell r 0 = some (.int .i64 n) := by rw [hS]; simp
  have c1 : S.cell r 1 = some x := by rw [hS]; simp
  have hx := hx.le lS
  have l2 := (Le.refl S).new hr1 #[(Value.int .i64 0), (Value.int .i64 0)] 31
  have ci : (S.new r1 #[(Value.int .i64 0), (Value.int .i64 0)] 31).info r1 = some (31, 2) := by simp
  obtain ⟨A, c, rfl, hcap, hA⟩ := hx.shape
  have fin : ∀ (c a : Int) (h2 : Heap), Le S h2 → ChkR n es c a → R (.returned (.agg #[.int .i64 c, .int .i64 a])) ((h2.set r1 0 (.int .i64 c)).set r1 1 (.int .i64 a)) :=
    fun c a h2 l2 x => hR c a _ (lS.trans ((l2.set_fresh hr1 _ _).set_fresh hr1 _ _)) x
  generalize S.new r1 #[(Value.int .i64 0), (Value.int .i64 0)] 31 = h2 at l2 ci
  refine JN.mk fun J hJ0 => ?_
  have hJ : ∀ (t : Bool) (h2 : Heap), Le S h2 → h2.info r1 = some (31, 2) → (t = true ↔ n < 0 ∨ 1024 < n ∨ 4096 < (es.length : Int)) → J (.bool t) h2 := by
    intro t h2 l2 ci ht
    simp only [hJ0]
    clear hJ0 J
    simp [l2.cell _ _ _ c0, l2.cell _ _ _ c1, ifV_bool, setL_cons, can_info ci]
    constructor
    · intro ht'
      have hbad := ht.1 ht'
      exact fin 3 0 _ l2 (.inl ⟨hbad, rfl, rfl⟩)
    · intro ht'
      have hgood : 0 ≤ n ∧ n ≤ 1024 ∧ es.length ≤ 4096 := by
        rw [ht'] at ht
        have : ¬ (n < 0 ∨ 1024 < n ∨ 4096 < (es.length : Int)) := fun e => by cases ht.2 e
        omega
      refine ⟨fun m xs h1 => ∃ j : Nat, xs = [.int .i64 j] ∧ j ≤ es.length ∧ m = es.length - j ∧ Le S h1 ∧ h1.info r1 = some (31, 2) ∧ ∀ (i : Nat) (e : RE), i < j → es[i]? = some e → e.inn n ∧ e.lab,
        ⟨_, 0, rfl, by omega, rfl, l2, ci, fun i e h => by omega⟩, ?_⟩
      rintro m X h3 ⟨j, hX, hj, rfl, l3, ci3, hok⟩
      simp only [List.cons.injEq, and_true] at hX
      simp only [hX]
      simp
      refine ⟨fun hlt => ?_, fun hge => ?_⟩
      · obtain ⟨b, o, rfl, e0, e1, e2, e3⟩ := hA j _ (List.getElem?_eq_getElem hlt)
        generalize he : es[j] = e at e0 e1 e2 e3
        have he' : es[j]? = some e := by rw [List.getElem?_eq_getElem hlt, he]
        simp [hlt, l3.cell _ _ _ e0, l3.cell _ _ _ e1, l3.cell _ _ _ e2, l3.cell _ _ _ e3]
        intro r2 hr2
        have l4 := l3.new hr2 #[(Value.int .i64 0), (Value.int .i64 0), (Value.int .i64 0), (Value.int .i64 0)] 40
        simp [setL_cons]
        obtain ⟨h4, hh4⟩ : ∃ h4, h4 = ((((h3.new r2 #[(Value.int .i64 0), (Value.int .i64 0), (Value.int .i64 0), (Value.int .i64 0)] 40).set r2 0 (.int .i64 e.u)).set r2 1 (.int .i64 e.v)).set r2 2 (.int .i64 e.cap)).set r2 3 (.int .i64 e.cost) := ⟨_, rfl⟩
        have f2 := hr2.le l3
        have l5 : Le S h4 := by rw [hh4]; exact (((l4.set_fresh f2 _ _).set_fresh f2 _ _).set_fresh f2 _ _).set_fresh f2 _ _
        have d0 : h4.cell r2 0 = some (.int .i64 e.u) := by rw [hh4]; simp
        have d1 : h4.cell r2 1 = some (.int .i64 e.v) := by rw [hh4]; simp
        have d2 : h4.cell r2 2 = some (.int .i64 e.cap) := by rw [hh4]; simp
        have d3 : h4.cell r2 3 = some (.int .i64 e.cost) := by rw [hh4]; simp
        have ci4 : h4.info r1 = some (31, 2) := by rw [hh4]; simp [(hr2.nei ci3).symm, hr2.nei ci3, ci3]
        rw [← hh4]
        clear hh4 l4
        refine JN.mk fun J hJ0 => ?_
        have hJ : ∀ t : Bool, (t = true ↔ ¬ e.inn n) → J (.bool t) h4 := by
          intro t ht
          simp only [hJ0]
          clear hJ0 J
          simp [d0, d1, d2, d3, ifV_bool, setL_cons, can_info ci4]
          constructor
          · intro ht'
            exact fin 30 j _ l5 (.inr (.inl ⟨by omega, j, e, he', hok, rfl, .inl ⟨ht.1 ht', rfl⟩⟩))
          · intro ht'
            refine CALL_mk en87 (label_c h4 e) ?_
            rintro en h5 ⟨t2, rfl, l6, hlab⟩
            have l7 := l5.trans l6
            have ci5 := l6.info _ _ ci4
            simp [ifV_bool, setL_cons, can_info ci5]
            constructor
            · intro h2
              have hin : e.inn n := Classical.byContradiction fun hin => by rw [ht.2 hin] at ht'; cases ht'
              have hla : ¬ e.lab := fun h => by rw [hlab.2 h] at h2; cases h2
              exact fin 31 j _ l7 (.inr (.inl ⟨by omega, j, e, he', hok, rfl, .inr ⟨hin, hla, rfl⟩⟩))
            · intro h2
              refine ⟨_, ?_, j + 1, by rw [wrap_in (by omega) (by omega)]; rfl, by omega, rfl, l7, ci5, ?_⟩
              · omega
              · intro i e' hi he2
                by_cases hij : i = j
                · subst hij
                  rw [he'] at he2
                  cases he2
                  refine ⟨?_, hlab.1 h2⟩
                  by_cases hin : e.inn n
                  · exact hin
                  · rw [ht.2 hin] at ht'; cases ht'
                · have := hok i e' (by omega) he2; omega
        clear hJ0
        simp [d0, d1, l5.cell _ _ _ c0]
        have k : ∀ t : Bool, (t = true ↔ e.u < 0 ∨ n ≤ e.u ∨ e.v < 0 ∨ n ≤ e.v) → J (.bool t) h4 := fun t ht => hJ t (ht.trans (by unfold RE.inn; omega))
        exact ⟨fun a => k _ (by simp [a]), fun a => ⟨fun b => k _ (by simp [b]), fun b => ⟨fun c => k _ (by simp [c]), fun c => k _ (by simp; omega)⟩⟩⟩
      · simp [setL_cons, can_info ci3]
        refine fin 0 0 _ l3 (.inr (.inr ⟨⟨by omega, by omega, by omega, fun i e hi => hok i e ?_ hi⟩, rfl, rfl⟩))
        have := (List.getElem?_eq_some_iff.1 hi).1
        omega
  clear hJ0
  simp [l2.cell _ _ _ c0, l2.cell _ _ _ c1]
  exact ⟨fun a => hJ _ _ l2 ci (by simp [a]), fun a => ⟨fun b => hJ _ _ l2 ci (by simp [b]), fun b => hJ _ _ l2 ci (by simp; omega)⟩⟩

theorem check_c {h : Heap} {n : Int} {x : Value} {es : List RE} (hx : ES h x es) :
    HCalls Try.prog 44 #[.agg #[.int .i64 n, x]] h fun en h' => ∃ c a : Int, en = .returned (.agg #[.int .i64 c, .int .i64 a]) ∧ Le h h' ∧ ChkR n es c a :=
  H44 (check_f hx fun c a _ l x => ⟨c, a, rfl, l, x⟩)

/-- A graph between two sides that the program takes. -/
structure Two (n left : Int) (es : List RE) : Prop where
  fine : Fine n es
  l0 : 0 ≤ left
  l1 : left ≤ n
  ok : ∀ (i : Nat) (e : RE), es[i]? = some e → (e.u < left ↔ ¬ e.v < left)

/-- What Sides tells: the code and the place. -/
def SidR (n left : Int) (es : List RE) (c a : Int) : Prop :=
  (ChkR n es c a ∧ c ≠ 0) ∨ (Fine n es ∧ (left < 0 ∨ n < left) ∧ c = 140 ∧ a = 0) ∨
  (Fine n es ∧ ¬ (left < 0 ∨ n < left) ∧ c = 140 ∧ ∃ (i : Nat) (e : RE), a = (i : Int) ∧ es[i]? = some e ∧ (e.u < left ↔ e.v < left) ∧ ∀ (k : Nat) (e : RE), k < i → es[k]? = some e → (e.u < left ↔ ¬ e.v < left)) ∨
  (Two n left es ∧ c = 0 ∧ a = 0)

theorem SidR.two {n left : Int} {es : List RE} {c a : Int} (h : SidR n left es c a) : c = 0 ↔ Two n left es := by
  rcases h with ⟨h, h2⟩ | ⟨h, h1, rfl, rfl⟩ | ⟨h, h1, rfl, i, e, rfl, he, h2, h3⟩ | ⟨h, rfl, rfl⟩
  · exact ⟨fun h => (h2 h).elim, fun t => (h2 (h.fine.2 t.fine)).elim⟩
  · exact ⟨fun h => by omega, fun t => by have := t.l0; have := t.l1; omega⟩
  · exact ⟨fun h => by omega, fun t => by have := t.ok i e he; omega⟩
  · exact ⟨fun _ => h, fun _ => rfl⟩
theorem SidR.nil {n left : Int} {es : List RE} {c a : Int} (h : SidR n left es c a) (hn : es = []) : a = 0 := by
  rcases h with ⟨h, h2⟩ | ⟨h, h1, rfl, rfl⟩ | ⟨h, h1, rfl, i, e, rfl, he, h2, h3⟩ | ⟨h, rfl, rfl⟩
  · exact h.nil hn
  · rfl
  · simp [hn] at he
  · rfl
theorem SidR.same {n left : Int} {es : List RE} {c a c' a' : Int} (h : SidR n left es c a) (h' : SidR n left es c' a') : c = c' ∧ a = a' := by
  rcases h with ⟨h, h2⟩ | ⟨h, h1, rfl, rfl⟩ | ⟨h, h1, rfl, i, e, rfl, he, h2, h3⟩ | ⟨h, rfl, rfl⟩
  · have nf : ¬ Fine n es := fun f => h2 (h.fine.2 f)
    rcases h' with ⟨h', _⟩ | ⟨f, _⟩ | ⟨f, _⟩ | ⟨f, _⟩
    · exact h.same h'
    · exact (nf f).elim
    · exact (nf f).elim
    · exact (nf f.fine).elim
  · rcases h' with ⟨h', h4⟩ | ⟨_, _, rfl, rfl⟩ | ⟨_, h4, _⟩ | ⟨f, _⟩
    · exact (h4 (h'.fine.2 h)).elim
    · exact ⟨rfl, rfl⟩
    · exact (h4 h1).elim
    · have := f.l0; have := f.l1; omega
  · rcases h' with ⟨h', h4⟩ | ⟨_, h4, _⟩ | ⟨_, _, rfl, i', e', rfl, he', h2', h3'⟩ | ⟨f, _⟩
    · exact (h4 (h'.fine.2 h)).elim
    · exact (h1 h4).elim
    · refine ⟨rfl, ?_⟩
      rcases Nat.lt_trichotomy i i' with h | h | h
      · have := h3' i e h he; omega
      · rw [h]
      · have := h3 i' e' h he'; omega
    · have := f.ok i e he; omega
  · rcases h' with ⟨h', h4⟩ | ⟨_, h4, _⟩ | ⟨_, _, rfl, i', e', rfl, he', h2', h3'⟩ | ⟨_, rfl, rfl⟩
    · exact (h4 (h'.fine.2 h.fine)).elim
    · have := h.l0; have := h.l1; omega
    · have := h.ok i' e' he'; omega
    · exact ⟨rfl, rfl⟩

theorem sides_f {h : Heap} {n left : Int} {x : Value} {es : List RE} {R : Ending → Heap → Prop} (hx : ES h x es)
    (hR : ∀ (c a : Int) (h' : Heap), Le h h' → SidR n left es c a →
      R (.returned (.agg #[.int .i64 c, .int .i64 a])) h') : F17 (.agg #[.int .i64 n, x]) (.int .i64 left) R h := by
  unfold F17
  intro r hr r1 hr1
  obtain ⟨S, hS⟩ : ∃ S, S = h.new r (Value.cells (.agg #[.int .i64 n, x])) 25 := ⟨_, rfl⟩
  rw [← hS] at hr1 ⊢
  have lS : Le h S := by rw [hS]; exact Heap.le_new hr _ _
  have c0 : S.cell r 0 = some (.int .i64 n) := by rw [hS]; simp
  have c1 : S.cell r 1 = some x := by rw [hS]; simp
  have hx := hx.le lS
  have l2 := (Le.refl S).new hr1 #[(Value.int .i64 0), (Value.int .i64 0)] 31
  have ci : (S.new r1 #[(Value.int .i64 0), (Value.int .i64 0)] 31).info r1 = some (31, 2) := by simp
  have fin : ∀ (c a : Int) (h2 : Heap), Le S h2 → SidR n left es c a → R (.returned (.agg #[.int .i64 c, .int .i64 a])) ((h2.set r1 0 (.int .i64 c)).set r1 1 (.int .i64 a)) :=
    fun c a h2 l2 x => hR c a _ (lS.trans ((l2.set_fresh hr1 _ _).set_fresh hr1 _ _)) x
  generalize S.new r1 #[(Value.int .i64 0), (Value.int .i64 0)] 31 = h2 at l2 ci
  simp [l2.cell _ _ _ c0, l2.cell _ _ _ c1]
  refine CALL_mk en44 (check_c (hx.le l2)) ?_
  rintro en h3 ⟨cc, ca, rfl, l3, hchk⟩
  have hc := hchk.fine
  simp
  intro r2 hr2
  have l4 := l2.trans l3
  have ci3 := l3.info _ _ ci
  have fr2 := hr2.le l4
  have n1 := hr2.nei ci3
  simp [setL_cons, n1, can_info ci3]
  obtain ⟨h4, hh4⟩ : ∃ h4, h4 = ((h3.new r2 #[(Value.int .i64 0), (Value.int .i64 0)] 31).set r2 0 (.int .i64 cc)).set r2 1 (.int .i64 ca) := ⟨_, rfl⟩
  have l5 : Le S h4 := by rw [hh4]; exact (((l4.new hr2 _ _)).set_fresh fr2 _ _).set_fresh fr2 _ _
  have ci4 : h4.info r1 = some (31, 2) := by rw [hh4]; simp [n1, ci3]
  have d0 : h4.cell r2 0 = some (.int .i64 cc) := by rw [hh4]; simp
  have d1 : h4.cell r2 1 = some (.int .i64 ca) := by rw [hh4]; simp
  rw [← hh4]
  clear hh4
  refine ⟨fun hne => ?_, fun he => ?_⟩
  · exact fin cc ca _ l5 (.inl ⟨hchk, hne⟩)
  · have hfine := hc.1 he
    have hf0 := hfine.n0
    have hf1 := hfine.n1
    have hf2 := hfine.m
    obtain ⟨A, c, rfl, hcap, hA⟩ := hx.shape
    refine JN.mk fun J hJ0 => ?_
    have hJ : ∀ (t : Bool), (t = true ↔ left < 0 ∨ n < left) → J (.bool t) h4 := by
      intro t ht
      simp only [hJ0]
      clear hJ0 J
      simp [l5.cell _ _ _ c0, l5.cell _ _ _ c1, ifV_bool, setL_cons, can_info ci4]
      constructor
      · intro ht'
        have hbad := ht.1 ht'
        exact fin 140 0 _ l5 (.inr (.inl ⟨hfine, hbad, rfl, rfl⟩))
      · intro ht'
        have hgood : 0 ≤ left ∧ left ≤ n := by
          rw [ht'] at ht
          have : ¬ (left < 0 ∨ n < left) := fun e => by cases ht.2 e
          omega
        refine ⟨fun m xs h1 => ∃ j : Nat, xs = [.int .i64 j] ∧ j ≤ es.length ∧ m = es.length - j ∧ Le S h1 ∧ h1.info r1 = some (31, 2) ∧ ∀ (i : Nat) (e : RE), i < j → es[i]? = some e → (e.u < left ↔ ¬ e.v < left),
          ⟨_, 0, rfl, by omega, rfl, l5, ci4, fun i e h => by omega⟩, ?_⟩
        rintro m X h3 ⟨j, hX, hj, rfl, l3, ci3, hok⟩
        simp only [List.cons.injEq, and_true] at hX
        simp only [hX]
        simp
        refine ⟨fun hlt => ?_, fun hge => ?_⟩
        · obtain ⟨b, o, rfl, e0, e1, e2, e3⟩ := hA j _ (List.getElem?_eq_getElem hlt)
          generalize he : es[j] = e at e0 e1 e2 e3
          have he' : es[j]? = some e := by rw [List.getElem?_eq_getElem hlt, he]
          simp [hlt, l3.cell _ _ _ e0, l3.cell _ _ _ e1, l3.cell _ _ _ e2, l3.cell _ _ _ e3]
          intro r2 hr2
          have l4 := l3.new hr2 #[(Value.int .i64 0), (Value.int .i64 0), (Value.int .i64 0), (Value.int .i64 0)] 40
          have n3 := hr2.nei ci3
          simp [setL_cons, n3, can_info ci3, ifV_bool]
          obtain ⟨h4, hh4⟩ : ∃ h4, h4 = ((((h3.new r2 #[(Value.int .i64 0), (Value.int .i64 0), (Value.int .i64 0), (Value.int .i64 0)] 40).set r2 0 (.int .i64 e.u)).set r2 1 (.int .i64 e.v)).set r2 2 (.int .i64 e.cap)).set r2 3 (.int .i64 e.cost) := ⟨_, rfl⟩
          have f2 := hr2.le l3
          have l5 : Le S h4 := by rw [hh4]; exact (((l4.set_fresh f2 _ _).set_fresh f2 _ _).set_fresh f2 _ _).set_fresh f2 _ _
          have ci4 : h4.info r1 = some (31, 2) := by rw [hh4]; simp [(hr2.nei ci3).symm, hr2.nei ci3, ci3]
          rw [← hh4]
          clear hh4 l4
          constructor
          · intro hb
            exact fin 140 j _ l5 (.inr (.inr (.inl ⟨hfine, by omega, rfl, j, e, rfl, he', hb, hok⟩)))
          · intro hb
            refine ⟨_, ?_, j + 1, by rw [wrap_in (by omega) (by omega)]; rfl, by omega, rfl, l5, ci3, ?_⟩
            · omega
            · intro i e' hi he2
              by_cases hij : i = j
              · subst hij
                rw [he'] at he2
                cases he2
                omega
              · have := hok i e' (by omega) he2; omega
        · simp [setL_cons, can_info ci3]
          refine fin 0 0 _ l3 (.inr (.inr (.inr ⟨⟨hfine, by omega, by omega, fun i e hi => hok i e ?_ hi⟩, rfl, rfl⟩)))
          have := (List.getElem?_eq_some_iff.1 hi).1
          omega
    clear hJ0
    simp [l5.cell _ _ _ c0]
    exact ⟨fun a => hJ _ (by simp [a]), fun a => hJ _ (by simp; omega)⟩

theorem sides_c {h : Heap} {n left : Int} {x : Value} {es : List RE} (hx : ES h x es) :
    HCalls Try.prog 17 #[.agg #[.int .i64 n, x], .int .i64 left] h fun en h' => ∃ c a : Int, en = .returned (.agg #[.int .i64 c, .int .i64 a]) ∧ Le h h' ∧ SidR n left es c a :=
  H17 (sides_f hx fun c a _ l x => ⟨c, a, rfl, l, x⟩)

end Go.Proofs.Ythchjolcjicpgaa
