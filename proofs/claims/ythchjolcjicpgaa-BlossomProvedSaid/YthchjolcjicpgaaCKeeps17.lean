/- The law file of layer 17: five, awake. -/
import Derived.Test.YthchjolcjicpgaaFLaw17
import Derived.Test.YthchjolcjicpgaaCNew
import Derived.Test.YthchjolcjicpgaaCOdd
import Derived.Test.YthchjolcjicpgaaMOdd
import Derived.Test.YthchjolcjicpgaaCKeeps
namespace Go.Proofs.Ythchjolcjicpgaa
open Go.HW Blo Odd

def fiveE : List RE := [⟨0, 1, 0, 0⟩, ⟨1, 2, 0, 0⟩, ⟨2, 3, 0, 0⟩, ⟨3, 4, 0, 0⟩, ⟨4, 0, 0, 0⟩, ⟨0, 5, 0, 0⟩]
def starE : List RE := [⟨0, 1, 0, 0⟩, ⟨0, 2, 0, 0⟩, ⟨3, 0, 0, 0⟩]

/-- No matching is larger. -/
theorem SolvedB.best {n : Nat} {es : List RE} {t : Fine n es} {ml cl : List Nat} (s : SolvedB (toB n es t) ml cl) {b : Nat → Option Nat} (M : Mat (toB n es t) b) : n ≤ 2 * ml.length + ((List.range n).filter fun v => (b v).isNone).length := by
  obtain ⟨_, _, h⟩ := s.large
  obtain ⟨seen, cs, ps, all⟩ := Parts.exist (adjW t fun v => decide (v ∈ cl))
  have h1 := h _ seen cs (fun v => rfl) ps all
  rw [adjW_nbr t (fun v => rfl)] at ps
  have h2 := weak M (fun v => rfl) ps
  have h3 : (toB n es t).n = n := rfl
  rw [h3] at h2
  omega

theorem toB_E {n : Nat} {es : List RE} {t : Fine n es} {i x y : Nat} (h : i < es.length) (hne : x ≠ y) (ho : (atE uE es i = x ∧ atE vE es i = y) ∨ (atE uE es i = y ∧ atE vE es i = x)) : (toB n es t).E i x y := ⟨h, hne, ho⟩

theorem five_fine : Fine ((6 : Nat) : Int) fiveE := by
  refine ⟨by omega, by omega, by simp [fiveE], fun i e he => ?_⟩
  match i, he with
  | 0, he => cases he; simp [RE.inn, RE.lab]
  | 1, he => cases he; simp [RE.inn, RE.lab]
  | 2, he => cases he; simp [RE.inn, RE.lab]
  | 3, he => cases he; simp [RE.inn, RE.lab]
  | 4, he => cases he; simp [RE.inn, RE.lab]
  | 5, he => cases he; simp [RE.inn, RE.lab]
  | i + 6, he => simp [fiveE] at he

theorem star_fine : Fine ((4 : Nat) : Int) starE := by
  refine ⟨by omega, by omega, by simp [starE], fun i e he => ?_⟩
  match i, he with
  | 0, he => cases he; simp [RE.inn, RE.lab]
  | 1, he => cases he; simp [RE.inn, RE.lab]
  | 2, he => cases he; simp [RE.inn, RE.lab]
  | i + 3, he => simp [starE] at he

theorem five_best {t : Fine ((6 : Nat) : Int) fiveE} {ml cl : List Nat} (s : SolvedB (toB 6 fiveE t) ml cl) : ml.length = 3 ∧ ml[2]? = some 5 := by
  obtain ⟨m1, r1, _⟩ := s.large
  let b : Nat → Option Nat := fun v => match v with | 0 => some 5 | 1 => some 1 | 2 => some 1 | 3 => some 3 | 4 => some 3 | 5 => some 5 | _ => none
  have M : Mat (toB 6 fiveE t) b := by
    refine ⟨fun x i hx hb => ?_⟩
    have hx' : x < 6 := hx
    match x, hx', hb with
    | 0, _, hb => cases hb; exact ⟨toB_E (y := 5) (by decide) (by decide) (.inl ⟨rfl, rfl⟩), rfl⟩
    | 1, _, hb => cases hb; exact ⟨toB_E (y := 2) (by decide) (by decide) (.inl ⟨rfl, rfl⟩), rfl⟩
    | 2, _, hb => cases hb; exact ⟨toB_E (y := 1) (by decide) (by decide) (.inr ⟨rfl, rfl⟩), rfl⟩
    | 3, _, hb => cases hb; exact ⟨toB_E (y := 4) (by decide) (by decide) (.inl ⟨rfl, rfl⟩), rfl⟩
    | 4, _, hb => cases hb; exact ⟨toB_E (y := 3) (by decide) (by decide) (.inr ⟨rfl, rfl⟩), rfl⟩
    | 5, _, hb => cases hb; exact ⟨toB_E (y := 0) (by decide) (by decide) (.inr ⟨rfl, rfl⟩), rfl⟩
    | n + 6, h, _ => omega
  have h1 := s.best M
  have h2 : ((List.range 6).filter fun v => (b v).isNone).length = 0 := by decide
  rw [h2] at h1
  obtain ⟨by_, re, Mb, _, _, hp, _, _, _⟩ := s
  have hc := matched_count Mb
  rw [← hp.length_eq] at hc
  have hn : (toB 6 fiveE t).n = 6 := rfl
  rw [hn] at hc
  have hl : ml.length = 3 := by omega
  have hf : ((List.range 6).filter fun v => (by_ v).isNone) = [] := List.eq_nil_of_length_eq_zero (by omega)
  have h5 : by_ 5 ≠ none := fun h => by
    have : 5 ∈ ((List.range 6).filter fun v => (by_ v).isNone) := by rw [List.mem_filter]; exact ⟨by decide, by rw [h]; rfl⟩
    rw [hf] at this; cases this
  obtain ⟨i, hi⟩ := Option.ne_none_iff_exists'.1 h5
  have e := Mb.edge (show 5 < (toB 6 fiveE t).n by rw [hn]; omega) hi
  have hi5 : i = 5 := by
    have hlt : i < 6 := e.lt
    have ho : (toB 6 fiveE t).U i = 5 ∨ (toB 6 fiveE t).V i = 5 := e.or.imp (·.1) (·.2)
    match i, hlt, ho with
    | 0, _, ho => rcases ho with h | h <;> cases h
    | 1, _, ho => rcases ho with h | h <;> cases h
    | 2, _, ho => rcases ho with h | h <;> cases h
    | 3, _, ho => rcases ho with h | h <;> cases h
    | 4, _, ho => rcases ho with h | h <;> cases h
    | 5, _, _ => rfl
    | i + 6, h, _ => omega
  subst hi5
  have hin : 5 ∈ ml := by
    refine hp.mem_iff.2 (takenB_mem.2 ?_)
    have hm5 := Mb.by_mate (show 5 < (toB 6 fiveE t).n by rw [hn]; omega)
    rw [hi] at hm5
    have h0 : mate (toB 6 fiveE t) by_ 5 = 0 := by
      rcases e.or with h | h
      · have : (toB 6 fiveE t).U 5 = 0 := rfl
        rw [h.1] at this; cases this
      · have : (toB 6 fiveE t).U 5 = 0 := rfl
        rw [← h.1, this]
    rw [h0] at hm5
    have hinv := Mb.inv (show 5 < (toB 6 fiveE t).n by rw [hn]; omega)
    rw [h0] at hinv
    exact ⟨0, by rw [hn]; omega, hm5, by rw [hinv]; omega⟩
  have hr := m1.rise
  match ml, hl, hin, hr with
  | [x, y, z], _, hin, hr =>
    refine ⟨rfl, ?_⟩
    have h1 := hr.1
    have h2 : ∀ v, v ∈ [x, y, z] → v < 6 := hr.2
    have hz := h2 z (by simp)
    have hy := h2 y (by simp)
    simp at h1 hin ⊢
    omega

theorem star_best {t : Fine ((4 : Nat) : Int) starE} {ml cl : List Nat} (s : SolvedB (toB 4 starE t) ml cl) : ml.length = 1 ∧ cl = [0] := by
  obtain ⟨m1, r1, _⟩ := s.large
  let b : Nat → Option Nat := fun v => match v with | 0 => some 0 | 1 => some 0 | _ => none
  have M : Mat (toB 4 starE t) b := by
    refine ⟨fun x i hx hb => ?_⟩
    match x, hb with
    | 0, hb => cases hb; exact ⟨toB_E (y := 1) (by decide) (by decide) (.inl ⟨rfl, rfl⟩), rfl⟩
    | 1, hb => cases hb; exact ⟨toB_E (y := 0) (by decide) (by decide) (.inr ⟨rfl, rfl⟩), rfl⟩
    | x + 2, hb => cases hb
  have h1 := s.best M
  have h2 : ((List.range 4).filter fun v => (b v).isNone).length = 2 := by decide
  rw [h2] at h1
  obtain ⟨by_, re, Mb, hF, hre, hp, _, hpw, hm⟩ := s
  have F : Done (toB 4 starE t) by_ re cl := ⟨Mb, hF, hre, hm⟩
  have hn : (toB 4 starE t).n = 4 := rfl
  have hc := matched_count Mb
  rw [← hp.length_eq, hn] at hc
  have touch : ∀ i v w, (toB 4 starE t).E i v w → v = 0 ∨ w = 0 := fun i v w e => by
    have hlt : i < 3 := e.lt
    have hor := e.or
    match i, hlt, hor with
    | 0, _, ho => rcases ho with ⟨h, h'⟩ | ⟨h, h'⟩ <;> first | exact .inl h.symm | exact .inr h.symm | exact .inl h'.symm | exact .inr h'.symm
    | 1, _, ho => rcases ho with ⟨h, h'⟩ | ⟨h, h'⟩ <;> first | exact .inl h.symm | exact .inr h.symm | exact .inl h'.symm | exact .inr h'.symm
    | 2, _, ho => rcases ho with ⟨h, h'⟩ | ⟨h, h'⟩ <;> first | exact .inl h.symm | exact .inr h.symm | exact .inl h'.symm | exact .inr h'.symm
    | i + 3, h, _ => omega
  have spoke : ∀ v, v < 4 → v ≠ 0 → ∃ i, (toB 4 starE t).E i 0 v := fun v hv h0 => by
    match v, hv, h0 with
    | 1, _, _ => exact ⟨0, toB_E (by decide) (by decide) (.inl ⟨rfl, rfl⟩)⟩
    | 2, _, _ => exact ⟨1, toB_E (by decide) (by decide) (.inl ⟨rfl, rfl⟩)⟩
    | 3, _, _ => exact ⟨2, toB_E (by decide) (by decide) (.inr ⟨rfl, rfl⟩)⟩
    | v + 4, h, _ => omega
  have h0n : 0 < (toB 4 starE t).n := by rw [hn]; omega
  -- one edge at most
  have hle : ml.length ≤ 1 := by
    refine Pair.inj_len (fun _ => 0) ml [0] (Pair.nodup_of_lt m1.rise.1) (by simp) fun i j hi hj _ => ?_
    have key : ∀ i, i ∈ ml → by_ 0 = some i := fun i hi => by
      have hi' := hp.mem_iff.1 hi
      have hlt := (taken_ends (v := 0) Mb hi' (.inl rfl)).2.2
      have e : (toB 4 starE t).E i ((toB 4 starE t).U i) ((toB 4 starE t).V i) := ⟨hlt.2, hlt.1, .inl ⟨rfl, rfl⟩⟩
      exact (taken_ends (v := 0) Mb hi' (touch _ _ _ e)).1
    have k1 := key i hi
    rw [key j hj] at k1
    cases k1; rfl
  have hl : ml.length = 1 := by omega
  refine ⟨hl, ?_⟩
  -- the middle isn't reached
  have h0 : re 0 = false := by
    cases hr : re 0 with
    | false => rfl
    | true =>
      exfalso
      have hfl : ((List.range 4).filter fun v => (by_ v).isNone).length = 2 := by omega
      have hnd : ((List.range 4).filter fun v => (by_ v).isNone).Nodup := List.nodup_range.filter _
      have hmem : ∀ v, v ∈ ((List.range 4).filter fun v => (by_ v).isNone) → v < 4 ∧ by_ v = none := fun v hv => by
        rw [List.mem_filter, List.mem_range] at hv
        exact ⟨hv.1, by simpa using hv.2⟩
      generalize ((List.range 4).filter fun v => (by_ v).isNone) = fl at hfl hnd hmem
      match fl, hfl, hnd, hmem with
      | [x, y], _, hnd, hmem =>
        have hxy : x ≠ y := by simpa using hnd
        obtain ⟨x1, x2⟩ := hmem x (by simp)
        obtain ⟨y1, y2⟩ := hmem y (by simp)
        have nc : ∀ v, re v = true → v ∉ cl := fun v h hv => by rw [((hm v).1 hv).2.1] at h; cases h
        have rx := F.free (v := x) x1 x2
        have ry := F.free (v := y) y1 y2
        have c0 := nc 0 hr
        refine hxy (F.one (c := (List.range 4).filter fun v => decide (v ∉ cl)) (fun v hv => ?_) (fun Q hQ u hu hq w hw => ?_) ?_ ?_ (by simp [ex, rx, x2]) (by simp [ex, ry, y2]))
        · rw [List.mem_filter, List.mem_range] at hv
          exact ⟨hv.1, by simpa using hv.2⟩
        · rw [List.mem_filter, List.mem_range] at hu hw
          have hu2 : u ∉ cl := by simpa using hu.2
          have hw2 : w ∉ cl := by simpa using hw.2
          have q0 : Q 0 := by
            by_cases e : u = 0
            · rw [← e]; exact hq
            · obtain ⟨i, e1⟩ := spoke u hu.1 e
              exact hQ u 0 hq (Nbr.edge e1.symm hu2 c0)
          by_cases e : w = 0
          · rw [e]; exact q0
          · obtain ⟨i, e1⟩ := spoke w hw.1 e
            exact hQ 0 w q0 (Nbr.edge e1 c0 hw2)
        · rw [List.mem_filter, List.mem_range]; exact ⟨x1, by simpa using nc x rx⟩
        · rw [List.mem_filter, List.mem_range]; exact ⟨y1, by simpa using nc y ry⟩
  have hcl : ∀ v, v ∈ cl ↔ v = 0 := fun v => by
    rw [hm]
    constructor
    · rintro ⟨_, h2, i, w, e, hw⟩
      rcases touch _ _ _ e with h | h
      · exact h
      · rw [h, h0] at hw; cases hw
    · rintro rfl
      refine ⟨h0n, h0, ?_⟩
      have hex : ∃ v, v < 4 ∧ by_ v = none := by
        have hfl : ((List.range 4).filter fun v => (by_ v).isNone).length = 2 := by omega
        obtain ⟨v, hv⟩ := List.exists_mem_of_length_pos (show 0 < ((List.range 4).filter fun v => (by_ v).isNone).length by omega)
        rw [List.mem_filter, List.mem_range] at hv
        exact ⟨v, hv.1, by simpa using hv.2⟩
      obtain ⟨v, v1, v2⟩ := hex
      have rv := F.free (v := v) v1 v2
      have hv0 : v ≠ 0 := fun e => by rw [e, h0] at rv; cases rv
      obtain ⟨i, e⟩ := spoke v v1 hv0
      exact ⟨i, v, e, rv⟩
  match cl, hcl, hpw with
  | [], hcl, _ => have := (hcl 0).2 rfl; cases this
  | [x], hcl, _ => rw [(hcl x).1 (by simp)]
  | x :: y :: l, hcl, hpw =>
    have h1 := (hcl x).1 (by simp)
    have h2 := (hcl y).1 (by simp)
    simp at hpw
    omega

theorem five_c (h : Heap) : HCalls Try.prog 53 #[] h fun e h' => Le h h' ∧ ∃ x, e = .returned (.agg #[.int .i64 6, x]) ∧ ES h' x fiveE := by
  apply H53
  unfold F53
  intro r hr
  have l1 := Heap.le_new hr #[.int .i64 0, .slice none 0 0] 25
  have hi : (h.new r #[.int .i64 0, .slice none 0 0] 25).info r = some (25, 2) := by simp
  generalize h.new r #[.int .i64 0, .slice none 0 0] 25 = h1 at l1 hi
  simp
  intro r2 hr2
  have hne : r ≠ r2 := hr2.nei hi
  have l2 := l1.new hr2 #[.int .i64 0, .int .i64 1, .int .i64 0, .int .i64 0, .int .i64 1, .int .i64 2, .int .i64 0, .int .i64 0, .int .i64 2, .int .i64 3, .int .i64 0, .int .i64 0, .int .i64 3, .int .i64 4, .int .i64 0, .int .i64 0, .int .i64 4, .int .i64 0, .int .i64 0, .int .i64 0, .int .i64 0, .int .i64 5, .int .i64 0, .int .i64 0] 40
  simp [setL_cons, can_info hi, hne]
  refine ⟨(l2.set_fresh hr _ _).set_fresh hr _ _, ⟨_, _, rfl, by simp [fiveE], fun i e he => ⟨r2, 0, rfl, ?_⟩⟩⟩
  have hne' := hne.symm
  match i, he with
  | 0, he => cases he; simp [hne']
  | 1, he => cases he; simp [hne']
  | 2, he => cases he; simp [hne']
  | 3, he => cases he; simp [hne']
  | 4, he => cases he; simp [hne']
  | 5, he => cases he; simp [hne']
  | i + 6, he => simp [fiveE] at he

theorem awake17_c (h : Heap) : HCalls Try.prog 22 #[] h fun e h' => Le h h' ∧ e = .returned (.bool true) := by
  apply H22
  unfold F22
  refine CALL_mk en53 (five_c h) ?_
  rintro e h1 ⟨l1, x, rfl, hx⟩
  simp only [endR_ret]
  refine CALL_mk en23 (solveB_c (n := 6) hx) ?_
  rintro e h2 ⟨l2, hs⟩
  rcases hs with ⟨c, a, hc, hs, rfl⟩ | ⟨n', t, xm, xc, ml, cl, bm, bc, hn, rfl, gm, gc, hne, sol⟩
  · exact absurd (hs.fine.2 five_fine) hc
  obtain rfl : n' = 6 := by omega
  obtain ⟨hml, h5⟩ := five_best sol
  simp
  intro r hr
  have hx3 : ES (h2.new r #[.int .i64 0, .int .i64 1, .int .i64 0, .int .i64 0, .int .i64 0, .int .i64 2, .int .i64 0, .int .i64 0, .int .i64 3, .int .i64 0, .int .i64 0, .int .i64 0] 40) (.slice (some ⟨r, 0, none⟩) 3 3) starE := by
    refine ⟨_, _, rfl, by simp [starE], fun i e he => ⟨r, 0, rfl, ?_⟩⟩
    match i, he with
    | 0, he => cases he; simp
    | 1, he => cases he; simp
    | 2, he => cases he; simp
    | i + 3, he => simp [starE] at he
  have l3 := Heap.le_new hr #[.int .i64 0, .int .i64 1, .int .i64 0, .int .i64 0, .int .i64 0, .int .i64 2, .int .i64 0, .int .i64 0, .int .i64 3, .int .i64 0, .int .i64 0, .int .i64 0] 40
  refine CALL_mk en23 (solveB_c (n := 4) hx3) ?_
  rintro e h4 ⟨l4, hs⟩
  rcases hs with ⟨c, a, hc, hs, rfl⟩ | ⟨n', t', xm', xc', ml', cl', bm', bc', hn', rfl, gm', gc', hne', sol'⟩
  · exact absurd (hs.fine.2 star_fine) hc
  obtain rfl : n' = 4 := by omega
  obtain ⟨hml', rfl⟩ := star_best sol'
  have L := (l1.trans l2).trans (l3.trans l4)
  obtain ⟨Am, cm, rfl, hcm⟩ := gm.il.le (l3.trans l4)
  obtain ⟨Am', cm', rfl, _⟩ := gm'.il
  obtain ⟨Ac', cc', rfl, hcc⟩ := gc'.il
  obtain ⟨b, o, rfl, c2⟩ := hcm 2 5 h5
  obtain ⟨b', o', rfl, c0⟩ := hcc 0 0 rfl
  simp at c0 c2
  simp [hml, hml', c0, c2, L]

end Go.Proofs.Ythchjolcjicpgaa

/- BlossomKeeps, as a contract. -/
namespace Go.Proofs.Ythchjolcjicpgaa
open Go.HW Blo

theorem SolB.desc {h h' : Heap} {n : Int} {es : List RE} {en : Ending} (s : SolB h n es en h') : ∃ (xm xc : Value) (c : Int) (ml cl : List Nat) (bm bc : Option Nat), en = .returned (.tuple #[xm, xc, .int .i64 c]) ∧ GL 3 h h' False xm ml bm ∧ GL 3 h h' False xc cl bc ∧
    ml.length ≤ 4096 ∧ cl.length ≤ 4096 ∧ ((c ≠ 0 ∧ ml = [] ∧ cl = [] ∧ ¬ Fine n es) ∨ (c = 0 ∧ ∃ (n' : Nat) (t : Fine n' es), n = n' ∧ SolvedB (toB n' es t) ml cl)) := by
  rcases s with ⟨c, a, hc, hs, rfl⟩ | ⟨n', t, xm, xc, ml, cl, bm, bc, rfl, rfl, gm, gc, hne, sol⟩
  · exact ⟨_, _, c, [], [], none, none, rfl, GL.nil _ _ _ _, GL.nil _ _ _ _, by simp, by simp, .inl ⟨hc, rfl, rfl, fun h => hc (hs.fine.2 h)⟩⟩
  · obtain ⟨m1, r1, _⟩ := sol.large
    have h1 := m1.rise.len
    have h2 := r1.len
    have h3 := t.m
    have h4 := t.n1
    exact ⟨xm, xc, 0, ml, cl, bm, bc, rfl, gm, gc, by omega, by omega, .inr ⟨rfl, n', t, rfl, sol⟩⟩

theorem keeps17_c {h : Heap} {n : Int} {gx : Value} {es : List RE} (hg : ES h gx es) (hm : es.length * 32 ≤ 140737488355328) :
    HCalls Try.prog 6 #[.agg #[.int .i64 n, gx]] h fun e _ => e = .returned (.bool true) := by
  apply H6
  unfold F6
  intro r hr
  have l1 := Heap.le_new hr (Value.cells (.agg #[.int .i64 n, gx])) 25
  have c0 : (h.new r (Value.cells (.agg #[.int .i64 n, gx])) 25).cell r 0 = some (.int .i64 n) := by simp
  have c1 : (h.new r (Value.cells (.agg #[.int .i64 n, gx])) 25).cell r 1 = some gx := by simp
  generalize h.new r (Value.cells (.agg #[.int .i64 n, gx])) 25 = S at l1 c0 c1
  have hg := hg.le l1
  refine CALL_mk en22 (awake17_c S) ?_
  rintro e h1 ⟨l2, rfl⟩
  simp [l2.cell _ _ _ c0, l2.cell _ _ _ c1]
  refine CALL_mk en20 (copy_c (hg.le l2) hm) ?_
  rintro e h2 ⟨l3, x1, bk, rfl, ge⟩
  have L3 := l2.trans l3
  simp
  intro r1 hr1
  have hbr : bk ≠ some r1 := by
    rintro rfl
    obtain ⟨_, c, _, _, hi, _⟩ := ge
    exact hr1.nei hi rfl
  obtain ⟨A1, k1, rfl, hk1⟩ := ge.shape
  simp [setL_cons]
  obtain ⟨h3, hh3⟩ : ∃ h3, h3 = ((h2.new r1 #[.int .i64 0, .slice none 0 0] 25).set r1 0 (.int .i64 n)).set r1 1 (.slice A1 es.length k1) := ⟨_, rfl⟩
  have l4 : Le h2 h3 := by rw [hh3]; exact ((Heap.le_new hr1 _ _).set_fresh hr1 _ _).set_fresh hr1 _ _
  have i1 : h3.info r1 = some (25, 2) := by rw [hh3]; simp
  have d0 : h3.cell r1 0 = some (.int .i64 n) := by rw [hh3]; simp
  have d1 : h3.cell r1 1 = some (.slice A1 es.length k1) := by rw [hh3]; simp
  have ge3 : GE 40 h1 h3 (.slice A1 es.length k1) es bk := by
    rw [hh3]
    exact ge.keep ((((Keep.refl (fun b => b ≠ r1) h2).new hr1 _ _).set (fun h => h rfl) _ _).set (fun h => h rfl) _ _) fun b hb e => hbr (by rw [hb, e])
  rw [← hh3]
  clear hh3 ge
  intro q hq
  have hq1 : r1 ≠ q := hq.nei i1
  have ge4 := ge3.keep ((Keep.refl (fun _ => True) h3).new hq #[.int .i64 0, .int .i64 0, .int .i64 (-7), .int .i64 0] 40) (fun _ _ => trivial)
  have l5 := Heap.le_new hq #[.int .i64 0, .int .i64 0, .int .i64 (-7), .int .i64 0] 40
  refine AP_edge (e := ⟨0, 0, -7, 0⟩) el_23 rfl ge4 ((l3.trans l4).trans l5) hm (by simp) ?_
  intro x2 h5 bk' ge5 _ l6 hbk kp
  refine ⟨l6, fun _ => ?_⟩
  have L34 := L3.trans l4
  have kb1 := ne_push2 (S := S) hbr (y := (25, 2)) (by simpa [hq1] using i1) hbk
  have a1 := kp.of kb1 (x := (25, 2)) (by simpa [hq1] using i1)
  have i5 : h5.info r1 = some (25, 2) := by rw [a1.2]; simpa [hq1] using i1
  cases bk' with
  | none => exact absurd ge5.1 (by simp)
  | some b =>
  obtain ⟨fb, c, rfl, hc, hib, hcells, _⟩ := ge5
  obtain ⟨Ag, cg, rfl, hcap, hgc⟩ := hg.shape
  have hbr1 : b ≠ r1 := fun e => kb1 (by rw [e])
  simp at hc
  have hsl : ∀ m l0 : Nat, m ≤ c → slV T 23 (.slice (some ⟨b, 0, none⟩) l0 c) none (some (.int .i64 m)) none = some (.slice (some ⟨b, 0, none⟩) m c) := fun m l0 hm => by
    rw [sl_hi (T := T) (t := 23) (e := 40) rfl (te := ⟨_, 4, 32, _⟩) rfl, if_pos (by omega)]
    simp
  have D5 : h5.cell r1 0 = some (.int .i64 n) := by rw [a1.1]; simpa [hq1] using d0
  simp [L34.cell _ _ _ c1, hsl es.length _ (by omega), can_info i5, D5]
  intro _
  obtain ⟨h6, hh6⟩ : ∃ h6, h6 = h5.set r1 1 (.slice (some ⟨b, 0, none⟩) es.length c) := ⟨_, rfl⟩
  have D0 : h6.cell r1 0 = some (.int .i64 n) := by rw [hh6, set_cell_here, if_neg (by omega), a1.1]; simpa [hq1] using d0
  have D1 : h6.cell r1 1 = some (.slice (some ⟨b, 0, none⟩) es.length c) := by rw [hh6]; simp
  have fr1 : h1.fresh r1 := hr1.le l3
  have L6 : Le h1 h6 := by rw [hh6]; exact (((l3.trans l4).trans l5).trans l6).set_fresh fr1 _ _
  have hb6 : ∀ i, h6.cell b i = h5.cell b i := fun i => by rw [hh6, set_cell_nb _ _ _ _ hbr1]
  have hmine : ES h6 (.slice (some ⟨b, 0, none⟩) es.length c) es := by
    refine ⟨_, c, rfl, by omega, fun i e he => ⟨b, 0, rfl, ?_⟩⟩
    simp only [Nat.zero_add, hb6]
    exact hcells i e (by rw [List.getElem?_append_left (List.getElem?_eq_some_iff.1 he).1]; exact he)
  have h7cell : h6.cell b (es.length * 4 + 2) = some (.int .i64 (-7)) := by
    rw [hb6]
    exact (hcells es.length ⟨0, 0, -7, 0⟩ (by simp)).2.2.1
  rw [← hh6]
  clear hh6 kp a1 i5 i1 d0 d1 ge4 ge3 l4 l5 l6 kb1 hcells hb6 hib hbr hq hr1 L34 L3
  have C0 := L6.cell _ _ _ (l2.cell _ _ _ c0)
  have C1 := L6.cell _ _ _ (l2.cell _ _ _ c1)
  have hg6 := hg.le (l2.trans L6)
  refine CALL_mk en23 (solveB_c hmine) ?_
  rintro e h7 ⟨l7, s1⟩
  obtain ⟨xm, xc, c7, ml, cl, bm, bc, rfl, gm, gc, hml, hcl, t1⟩ := s1.desc
  simp [l7.cell _ _ _ D0, l7.cell _ _ _ D1]
  refine CALL_mk en23 (solveB_c (hmine.le l7)) ?_
  rintro e h8 ⟨l8, s2⟩
  obtain ⟨xm2, xc2, c8, ml2, cl2, bm2, bc2, rfl, gm2, gc2, hml2, hcl2, t2⟩ := s2.desc
  have L8 := l7.trans l8
  have L68 := L6.trans L8
  simp
  refine JN.mk fun J hJ => ?_
  simp [L8.cell _ _ _ D0, L8.cell _ _ _ D1, L8.cell _ _ _ C0, L8.cell _ _ _ C1]
  refine CALL_mk en21 (same_ok (hmine.le L8) (hg6.le L8) hm) ?_
  rintro e h9 ⟨l9, rfl⟩
  have L9 := L8.trans l9
  have wl : IntKind.i64.wrap ((es.length : Int) + 1) = ((es.length + 1 : Nat) : Int) := by rw [wrap_in (by omega) (by omega)]; rfl
  have hsl2 : slV T 23 (.slice (some ⟨b, 0, none⟩) es.length c) none (some (.int .i64 ((es.length : Int) + 1))) none = some (.slice (some ⟨b, 0, none⟩) (es.length + 1) c) := by
    rw [show ((es.length : Int) + 1) = ((es.length + 1 : Nat) : Int) by omega]
    exact hsl (es.length + 1) _ (by omega)
  intro _
  have hlt1 : (es.length : Int) < (es.length : Int) + 1 := by omega
  simp [L9.cell _ _ _ D1, L9.cell _ _ _ C1, wl, hsl2, hlt1, L9.cell _ _ _ h7cell]
  rw [hJ]
  clear hJ J
  have kn : ∀ (b : Nat) (x : TypeId × Nat), h7.info b = some x → bm2 ≠ some b ∧ bc2 ≠ some b := by
    rintro b x hx
    constructor
    · rintro rfl
      exact gm2.1.nei hx rfl
    · rintro rfl
      exact gc2.1.nei hx rfl
  let P : Nat → Prop := fun b => bm = some b ∨ bc = some b
  have hPf : ∀ b, P b → h6.fresh b := by
    rintro b (rfl | rfl)
    · exact gm.1
    · exact gc.1
  have hPk : ∀ b, P b → bm2 ≠ some b ∧ bc2 ≠ some b := by
    rintro b (rfl | rfl)
    · obtain ⟨c, hc⟩ := gm.known
      exact kn b _ hc
    · obtain ⟨c, hc⟩ := gc.known
      exact kn b _ hc
  simp only [ifV_false]
  have gm9 := (gm.le l8).le l9
  have gc9 := (gc.le l8).le l9
  refine wipe (len := ml.length) (P := P) (gm9.w3 fun b hb => .inl hb) (by omega) fun h10 w10 => ?_
  refine wipe (len := cl.length) (P := P) ((gc9.w3 fun b hb => .inr hb).wiped w10) (by omega) fun h11 w11 => ?_
  have W := w10.trans w11
  have L11 : Le h6 h11 := W.le L9 hPf
  have gm11 := ((gm2.le l9).wiped W fun b hb hp => (hPk b hp).1 hb)
  have gc11 := ((gc2.le l9).wiped W fun b hb hp => (hPk b hp).2 hb)
  obtain ⟨A3, k3, rfl, _⟩ := gm11.shape
  obtain ⟨A4, k4, rfl, _⟩ := gc11.shape
  simp
  refine ⟨fun hne => ?_, fun h0 => ?_⟩
  · rcases t1 with ⟨_, _, _, nG⟩ | ⟨h, _⟩
    · rcases t2 with ⟨_, e1, e2, _⟩ | ⟨_, n', t, rfl, _⟩
      · exact ⟨fun _ => e2, e1⟩
      · exact absurd t nG
    · exact absurd h hne
  · rcases t1 with ⟨h, _⟩ | ⟨_, n', t, rfl, _⟩
    · exact absurd h0 h
    · rcases t2 with ⟨_, _, _, nG⟩ | ⟨_, n2, t2, hn2, sol⟩
      · exact absurd t nG
      · obtain rfl : n' = n2 := by omega
        obtain ⟨M1, R1, C1'⟩ := sol.large
        simp [L11.cell _ _ _ C0, L11.cell _ _ _ C1]
        refine CALL_mk en24 (largest_ok (hg6.le L11) gm11.il gc11.il t M1 R1 C1') ?_
        rintro e h12 ⟨rfl, _⟩
        simp

end Go.Proofs.Ythchjolcjicpgaa
