/- The contract of one look along shortest ways (bimatch's kind 2). -/
import Derived.Test.YthchjolcjicpgaaCTry
import Derived.Test.YthchjolcjicpgaaMPair2
namespace Go.Proofs.Ythchjolcjicpgaa
open Go.HW Pair

/-- What a look along shortest ways leaves. -/
structure Aft (g : G) (outL : Nat → List Nat) (lev lev' nx nx' : Nat → Int) : Prop where
  nx0 : ∀ x, x < g.left → 0 ≤ nx' x ∧ nx' x ≤ (outL x).length
  lev : ∀ x, x < g.left → lev' x = lev x ∨ lev' x = -1

/-- What a look along shortest ways that fails leaves. -/
structure Lost (g : G) (by_ lev lev' nx nx' : Nat → Int) (v : Nat) : Prop where
  dead : lev' v = -1
  frame : ∀ x, x < g.left → x ≠ v → lev x ≤ lev v → nx' x = nx x ∧ lev' x = lev x
  clean : (∀ x, x < g.left → lev v ≤ lev x → nx x = 0) → Lev g by_ lev lev' ∧ ∀ x, x < g.left → lev v ≤ lev x → lev' x = -1 ∨ nx' x = 0

theorem along_c {S : Heap} {p bo bb q bl bn : Nat} {g : G} {es : List RE} {outL : Nat → List Nat} (a : PS S p bo bb g es outL) (q0 : S.cell q 0 = some (.pointer (some ⟨p, 0, none⟩)))
    (q1 : ∃ c, S.cell q 1 = some (.slice (some ⟨bl, 0, none⟩) g.n c)) (q2 : ∃ c, S.cell q 2 = some (.slice (some ⟨bn, 0, none⟩) g.n c)) (fb : S.fresh bb) (fl : S.fresh bl) (fn : S.fresh bn) (hbl : bb ≠ bl) (hbn : bb ≠ bn) (hln : bl ≠ bn) :
    ∀ (N : Nat) (h : Heap) (by_ lev nx : Nat → Int) (v : Nat), ((g.n : Int) + 1 - lev v).toNat ≤ N → Le S h → IA h bb g.n by_ → IA h bl g.n lev → IA h bn g.n nx →
    Pair.M g by_ → v < g.left → (∀ x, x < g.left → -1 ≤ lev x ∧ lev x ≤ g.n) → (∀ x, x < g.left → 0 ≤ nx x ∧ nx x ≤ (outL x).length) →
    HCalls Try.prog 160 #[.pointer (some ⟨q, 0, none⟩), .int .i64 v] h fun e h' => Le S h' ∧ ∃ lev' nx', IA h' bl g.n lev' ∧ IA h' bn g.n nx' ∧ Aft g outL lev lev' nx nx' ∧
      ((e = .returned (.bool true) ∧ ∃ by', IA h' bb g.n by' ∧ Win g by_ by' (sn g by_ lev (lev v)) v) ∨ (e = .returned (.bool false) ∧ IA h' bb g.n by_ ∧ Lost g by_ lev lev' nx nx' v)) := by
  obtain ⟨c3, e3⟩ := a.c3
  obtain ⟨c4, e4⟩ := a.c4
  obtain ⟨c1, e1⟩ := q1
  obtain ⟨c2, e2⟩ := q2
  have hn := g.hn
  have en_le := a.pg.small
  intro N
  induction N using Nat.strongRecOn with
  | _ N ih =>
    intro h by_ lev nx v hN l hb hl hx hM hv hlow hnx
    have hvn : v < g.n := by omega
    have hvl : (v : Int) < (g.left : Int) := by omega
    have hvn' : (v : Int) < (g.n : Int) := by omega
    apply H160
    obtain ⟨x, ex, ⟨A, cx, rfl, hxc⟩⟩ := a.row v hv
    have hll := a.len v hv
    simp only [F160, JN]
    obtain ⟨I, hI⟩ : ∃ I : Nat → List Value → Heap → Prop, ∀ m xs h1, I m xs h1 ↔ ∃ (lev1 nx1 : Nat → Int), m = ((outL v).length - nx1 v).toNat ∧ Le S h1 ∧ IA h1 bb g.n by_ ∧ IA h1 bl g.n lev1 ∧ IA h1 bn g.n nx1 ∧ Aft g outL lev lev1 nx nx1 ∧ lev1 v = lev v ∧
      (∀ x, x < g.left → x ≠ v → lev x ≤ lev v → nx1 x = nx x ∧ lev1 x = lev x) ∧
      ((∀ x, x < g.left → lev v ≤ lev x → nx x = 0) → Lev g by_ lev lev1 ∧ (∀ x, x < g.left → lev v ≤ lev x → x ≠ v → lev1 x = -1 ∨ nx1 x = 0) ∧
        ∀ (j i : Nat), (j : Int) < nx1 v → (outL v)[j]? = some i → ∃ k, k < g.m ∧ by_ (g.R i) = (k : Int) ∧ (lev (g.L k) = lev v + 1 → lev1 (g.L k) = -1)) := ⟨_, fun _ _ _ => Iff.rfl⟩
    refine ⟨I, ⟨_, (hI _ _ _).2 ⟨lev, nx, rfl, l, hb, hl, hx, ⟨hnx, fun _ _ => .inl rfl⟩, rfl, fun _ _ _ _ => ⟨rfl, rfl⟩, fun hc => ⟨Lev.refl _ _ _, fun x hx h _ => .inr (hc x hx h), fun j i hj => by have := hc v hv (by omega); omega⟩⟩⟩, ?_⟩
    intro m X h1 hI1
    obtain ⟨lev1, nx1, rfl, l1, hb1, hl1, hx1, aft, hlv, hfr, hcl⟩ := (hI _ _ _).1 hI1
    obtain ⟨hnv0, hnv1⟩ := aft.nx0 v hv
    simp [l1.cell _ _ _ q0, l1.cell _ _ _ e2, l1.cell _ _ _ e3, l1.cell _ _ _ ex, hvl, hvn', hx1.cell _ hvn]
    refine ⟨fun hlt => ?_, fun hge => ?_⟩
    · obtain ⟨j, hj⟩ : ∃ j : Nat, nx1 v = (j : Int) := ⟨(nx1 v).toNat, by omega⟩
      rw [hj] at hlt
      have hlt' : j < (outL v).length := by omega
      obtain ⟨b, o, rfl, hcell⟩ := hxc j _ (List.getElem?_eq_getElem hlt')
      generalize hi : (outL v)[j] = i at hcell
      have hi' : (outL v)[j]? = some i := by rw [List.getElem?_eq_getElem hlt', hi]
      obtain ⟨him, hiL⟩ := (a.out v hv i).1 (by rw [← hi]; exact List.getElem_mem hlt')
      have hr := g.hr i him
      have hRn : ((g.R i : Nat) : Int) < (g.n : Int) := by omega
      have eo : (g.L i : Int) + g.R i - v = g.R i := by omega
      have hg : g.left ≤ g.R i := hr.1
      simp [hj, hlt', l1.cell _ _ _ hcell, l1.cell _ _ _ e4]
      refine CALL_mk en86 (other_p a l1 him (by omega)) ?_
      rintro e h2 ⟨rfl, rfl⟩
      rw [eo]
      simp [Le.refl, hRn, hb1.cell _ hr.2]
      intro _
      -- an edge that leads nowhere is passed
      have pass : ∀ (h5 : Heap) (lev2 nx2 : Nat → Int), Le S h5 → IA h5 bb g.n by_ → IA h5 bl g.n lev2 → IA h5 bn g.n nx2 → Aft g outL lev lev2 nx nx2 → lev2 v = lev v → nx2 v = (j : Int) →
          (∀ x, x < g.left → x ≠ v → lev x ≤ lev v → nx2 x = nx x ∧ lev2 x = lev x) →
          ((∀ x, x < g.left → lev v ≤ lev x → nx x = 0) → Lev g by_ lev lev2 ∧ (∀ x, x < g.left → lev v ≤ lev x → x ≠ v → lev2 x = -1 ∨ nx2 x = 0) ∧
            ∀ (j' i : Nat), (j' : Int) < (j : Int) + 1 → (outL v)[j']? = some i → ∃ k, k < g.m ∧ by_ (g.R i) = (k : Int) ∧ (lev (g.L k) = lev v + 1 → lev2 (g.L k) = -1)) →
          ∃ m' : Nat, (m' : Int) < (outL v).length - (j : Int) ∧ I m' [] (h5.set bn v (.int .i64 ((j : Int) + 1))) := by
        intro h5 lev2 nx2 l5 b1 b2 b3 b4 b5 b6 b7 b8
        refine ⟨_, ?_, (hI _ _ _).2 ⟨lev2, upd nx2 v ((j : Int) + 1), rfl, l5.set_fresh fn _ _, b1.other hbn _, b2.other hln _, b3.set _, ⟨fun x hx => ?_, b4.lev⟩, b5, fun x hx e h => ?_, fun hc => ?_⟩⟩
        · rw [upd_same]; omega
        · by_cases e : x = v
          · rw [e, upd_same]; omega
          · rw [upd_ne _ _ e]; exact b4.nx0 x hx
        · rw [upd_ne _ _ e]; exact b7 x hx e h
        · obtain ⟨c1, c2, c3⟩ := b8 hc
          refine ⟨c1, fun x hx h e => by rw [upd_ne _ _ e]; exact c2 x hx h e, ?_⟩
          rw [upd_same]
          exact c3
      have w1 : IntKind.i64.wrap ((j : Int) + 1) = (j : Int) + 1 := by rw [wrap_in (by omega) (by omega)]
      refine ⟨fun hpos => ?_, fun hneg => ?_⟩
      · obtain ⟨k, hk, hbk, hkR⟩ : ∃ k, k < g.m ∧ by_ (g.R i) = (k : Int) ∧ g.R k = g.R i := by
          rcases hM.some _ hr.2 with h | ⟨q, hq, h, h'⟩
          · omega
          · refine ⟨q, hq, h, h'.resolve_left fun e => ?_⟩
            have := g.hl q hq
            omega
        have hLk := g.hl k hk
        have hbLk : by_ (g.L k) = (k : Int) := (hM.both k hk).2 (by rw [hkR]; exact hbk)
        have eo2 : (g.L k : Int) + g.R k - g.R i = g.L k := by rw [hkR]; omega
        have hLn : ((g.L k : Nat) : Int) < (g.n : Int) := by omega
        simp [l1.cell _ _ _ q0]
        refine CALL_mk en86 (other_p a l1 him (by omega)) ?_
        rintro e h3 ⟨rfl, rfl⟩
        rw [eo]
        simp only [endR_ret]
        refine ⟨Le.refl _, fun _ => ?_⟩
        rw [hbk]
        refine CALL_mk en86 (other_p a l1 hk hr.2) ?_
        rintro e h3 ⟨rfl, rfl⟩
        rw [eo2]
        have lv1 := aft.lev v hv
        have hv0 := hlow v hv
        have hv2 := hlow _ hLk
        have hu2 := aft.lev _ hLk
        have w2 : IntKind.i64.wrap (lev v + 1) = lev v + 1 := by rw [wrap_in (by omega) (by omega)]
        simp [l1.cell _ _ _ e1, l1.cell _ _ _ e2, hLn, hvn', hl1.cell _ hvn, hl1.cell (g.L k) (by omega), hlv, w2, hx1.cell _ hvn, hj, w1, hx1.can hvn]
        intro _
        refine ⟨fun hne => ?_, fun heq => ?_⟩
        · refine pass h3 lev1 nx1 l1 hb1 hl1 hx1 aft hlv hj hfr fun hc => ?_
          obtain ⟨c1, c2, c3⟩ := hcl hc
          refine ⟨c1, c2, fun j' i' hj' hi2 => ?_⟩
          by_cases e : j' = j
          · subst e
            rw [hi'] at hi2
            cases hi2
            exact ⟨k, hk, hbk, fun e => by omega⟩
          · exact c3 j' i' (by omega) hi2
        · have hlow1 : ∀ x, x < g.left → -1 ≤ lev1 x ∧ lev1 x ≤ g.n := fun x hx => by
            have := hlow x hx
            have := aft.lev x hx
            omega
          have hmes : ((g.n : Int) + 1 - lev1 (g.L k)).toNat < N := by
            have := hlow1 _ hLk
            omega
          refine CALL_mk en160 (ih _ hmes h3 by_ lev1 nx1 (g.L k) (Nat.le_refl _) l1 hb1 hl1 hx1 hM hLk hlow1 aft.nx0) ?_
          rintro e h5 ⟨l5, lev2, nx2, hl5, hx5, aft5, ⟨rfl, by', hb5, W⟩ | ⟨rfl, hb5, F⟩⟩
          · simp [l5.cell _ _ _ q0]
            intro _
            refine CALL_mk en155 (take_p a l5 fb hb5 him) ?_
            rintro e h6 ⟨rfl, l6, hb6, hfr6⟩
            simp
            refine ⟨l6, lev2, ⟨fun x hx => by rw [(hfr6 bl x (Ne.symm hbl)).1]; exact hl5.cell x hx, by rw [(hfr6 bl 0 (Ne.symm hbl)).2]; exact hl5.info⟩,
              nx2, ⟨fun x hx => by rw [(hfr6 bn x (Ne.symm hbn)).1]; exact hx5.cell x hx, by rw [(hfr6 bn 0 (Ne.symm hbn)).2]; exact hx5.info⟩, ⟨aft5.nx0, fun x hx => ?_⟩, _, hb6, ?_⟩
            · have := aft5.lev x hx
              have := aft.lev x hx
              omega
            · rw [hiL]
              have hsafe : Pair.Safe g by_ (sn g by_ lev1 (lev v)) v := by
                rcases hM.some v hvn with h | ⟨k', hk', h, h'⟩
                · exact .inl h
                · have h3 : g.L k' = v := h'.resolve_right fun e => by have := g.hr k' hk'; omega
                  refine .inr ⟨k', hk', h, (sn_of (g.hr k' hk').2 ((hM.both k' hk').1 (by rw [h3]; exact h))).2 ?_⟩
                  rw [h3, hlv]
                  exact Int.le_refl _
              have hs : sn g by_ lev1 (lev v) (g.R i) = false := by
                cases e : sn g by_ lev1 (lev v) (g.R i) with
                | false => rfl
                | true => rw [sn_of hr.2 hbk] at e; omega
              refine Win.mono (s' := sn g by_ lev1 (lev v)) (fun w hw => ?_) (Win.pass hM him hiL hs (fun _ h => h) hk hbk hkR (Win.mono (s' := sn g by_ lev1 (lev1 (g.L k))) (fun w hw => ?_) W) (fun e => by rw [e] at heq; omega) hsafe)
              · simp only [sn, decide_eq_true_eq] at hw ⊢
                refine ⟨hw.1, hw.2.1, ?_⟩
                rcases hM.some w hw.1 with h6 | ⟨k', hk', h6, _⟩
                · omega
                · have h8 : (by_ w).toNat = k' := by omega
                  rw [h8] at hw ⊢
                  have h7 := g.hl k' hk'
                  have := aft.lev _ h7
                  have := hlow _ h7
                  omega
              · simp only [Pair.set] at hw
                split at hw
                · next e => rw [e, sn_of hr.2 hbk]; exact Int.le_refl _
                · simp only [sn, decide_eq_true_eq] at hw ⊢
                  omega
          · have hfv := F.frame v hv (by intro e; rw [← e] at heq; omega) (by omega)
            simp [l5.cell _ _ _ e2, hvn', hx5.cell _ hvn, hfv.1, hj, w1, hx5.can hvn]
            intro _
            refine pass h5 lev2 nx2 l5 hb5 hl5 hx5 ⟨aft5.nx0, fun x hx => ?_⟩ (hfv.2.trans hlv) (hfv.1.trans hj) (fun x hx hxv h => ?_) fun hc => ?_
            · have := aft5.lev x hx
              have := aft.lev x hx
              omega
            · have h7 := hfr x hx hxv h
              have h8 := F.frame x hx (by intro e; rw [← e] at heq; omega) (by omega)
              exact ⟨h8.1.trans h7.1, h8.2.trans h7.2⟩
            · obtain ⟨c1, c2, c3⟩ := hcl hc
              obtain ⟨d1, d2⟩ := F.clean fun x hx h => by
                have := hlow1 x hx
                have := aft.lev x hx
                have := c2 x hx (by omega) (by rintro rfl; omega)
                omega
              refine ⟨c1.trans d1, fun x hx h hne => ?_, fun j' i' hj' hi2 => ?_⟩
              · by_cases h9 : lev1 (g.L k) ≤ lev1 x
                · exact d2 x hx h9
                · have h8 := F.frame x hx (by rintro rfl; omega) (by omega)
                  rw [h8.1, h8.2]
                  exact c2 x hx h hne
              · by_cases e : j' = j
                · subst e
                  rw [hi'] at hi2
                  cases hi2
                  exact ⟨k, hk, hbk, fun e => F.dead⟩
                · obtain ⟨k', hk', hb', hl'⟩ := c3 j' i' (by omega) hi2
                  refine ⟨k', hk', hb', fun e => ?_⟩
                  have := hl' e
                  have := aft5.lev _ (g.hl k' hk')
                  omega
      · have hfree : by_ (g.R i) = -1 := by
          rcases hM.some _ hr.2 with h | ⟨q, _, h, _⟩
          · exact h
          · omega
        simp [l1.cell _ _ _ q0]
        refine CALL_mk en155 (take_p a l1 fb hb1 him) ?_
        rintro e h6 ⟨rfl, l6, hb6, hfr6⟩
        simp
        refine ⟨l6, lev1, ⟨fun x hx => by rw [(hfr6 bl x (Ne.symm hbl)).1]; exact hl1.cell x hx, by rw [(hfr6 bl 0 (Ne.symm hbl)).2]; exact hl1.info⟩,
          nx1, ⟨fun x hx => by rw [(hfr6 bn x (Ne.symm hbn)).1]; exact hx1.cell x hx, by rw [(hfr6 bn 0 (Ne.symm hbn)).2]; exact hx1.info⟩, aft, _, hb6, ?_⟩
        rw [hiL]
        refine Win.free hM him hiL (s := sn g by_ lev (lev v)) ?_ (fun _ h => h) hfree
        simp [sn, hfree]
    · simp [l1.cell _ _ _ e1, hvn', hl1.can hvn]
      refine ⟨l1.set_fresh fl _ _, upd lev1 v (-1), hl1.set _, nx1, hx1.other hln.symm _, ⟨aft.nx0, fun x hx => ?_⟩, hb1.other hbl _, ?_⟩
      · by_cases e : x = v
        · rw [e, upd_same]; exact .inr rfl
        · rw [upd_ne _ _ e]; exact aft.lev x hx
      · refine ⟨upd_same _ _ _, fun x hx e h => ?_, fun hc => ?_⟩
        · rw [upd_ne _ _ e]
          exact hfr x hx e h
        · obtain ⟨c1, c2, c3⟩ := hcl hc
          refine ⟨fun x hx => ?_, fun x hx h => ?_⟩
          · by_cases e : x = v
            · subst e
              refine .inr ⟨upd_same _ _ _, fun i hi hL => ?_⟩
              obtain ⟨j, hj, e⟩ := List.mem_iff_getElem.1 ((a.out x hx i).2 ⟨hi, hL⟩)
              obtain ⟨k, hk, hb, hl⟩ := c3 j i (by omega) (by rw [List.getElem?_eq_getElem hj, e])
              refine ⟨k, hk, hb, fun e => ?_⟩
              rw [upd_ne _ _ (by intro e2; rw [e2] at e; omega)]
              exact hl e
            · rw [upd_ne _ _ e]
              refine (c1 x hx).imp id fun ⟨h1, h2⟩ => ⟨h1, fun i hi hL => ?_⟩
              obtain ⟨k, hk, hb, hl⟩ := h2 i hi hL
              refine ⟨k, hk, hb, fun e => ?_⟩
              by_cases e2 : g.L k = v
              · rw [e2, upd_same]
              · rw [upd_ne _ _ e2]; exact hl e
          · by_cases e : x = v
            · rw [e, upd_same]; exact .inl rfl
            · rw [upd_ne _ _ e]; exact c2 x hx h e

end Go.Proofs.Ythchjolcjicpgaa
