/- The laws' arguments, read out of memory. -/
import Derived.Test.YthchjolcjicpgaaRow
import Derived.Test.YthchjolcjicpgaaTab
namespace Go.Proofs.Ythchjolcjicpgaa
open Go.HW
open Go.ChangeShapes Go.WideShapes Go.ChangeAt Go.RowKit Go.Joins

theorem Try.own : ownKnob Try.prog.godebug = none := by kernel_rfl
theorem Try.laidOut : laidOutB Try.prog = true := by kernel_rfl

theorem cells4_ {w : World} {a : Addr} {cs : List Value} (h : w.cells? 0 a 4 = some cs) : ∃ c0 c1 c2 c3, cs = [c0, c1, c2, c3] ∧ w.cell? (a.add 0) = some c0 ∧ w.cell? (a.add 1) = some c1 ∧ w.cell? (a.add 2) = some c2 ∧ w.cell? (a.add 3) = some c3 := by
  unfold World.cells? at h
  rw [if_pos (Nat.zero_le _)] at h
  rw [show List.range 4 = [0, 1, 2, 3] from rfl] at h
  simp only [List.mapM_cons, List.mapM_nil] at h
  cases h0 : w.cell? (a.add 0) with
  | none => rw [h0] at h; cases h
  | some c0 =>
  cases h1 : w.cell? (a.add 1) with
  | none => rw [h0, h1] at h; cases h
  | some c1 =>
  cases h2 : w.cell? (a.add 2) with
  | none => rw [h0, h1, h2] at h; cases h
  | some c2 =>
  cases h3 : w.cell? (a.add 3) with
  | none => rw [h0, h1, h2, h3] at h; cases h
  | some c3 =>
    rw [h0, h1, h2, h3] at h
    cases h
    exact ⟨c0, c1, c2, c3, rfl, rfl, rfl, rfl, rfl⟩

set_option maxRecDepth 100000 in
theorem open_edges {H : Type} {enc : TypeId × Value → H} {W : World} {fuel : Nat} {x : Value} {y : DataW H × List MemPlace} (h : DataW.trod enc Try.prog W 0 (fun _ => true) true fuel 23 [x] = some y) : ∃ es, ES (hOf W) x es ∧ (es = [] ∨ ∃ D R, y.1 = .slice D R ∧ D.length = es.length) := by
  rcases DataW.trod_slice (e := 40) Try.underlying23 h with ⟨h1, _⟩ | ⟨a, len, cap, elems, rest, n, _, h1, hy, _, hlc, _, hll0, he, _⟩
  · simp at h1
    subst h1
    exact ⟨[], ⟨none, 0, rfl, by simp, fun i e h => by simp at h⟩, .inl rfl⟩
  · simp at h1
    subst h1
    have hc : Try.prog.cellsOf 40 = 4 := by kernel_rfl
    have hll : elems.length = len := by assumption
    have rd : ∀ i, i < len → ∃ c0 c1 c2 c3 y, W.cell? ((a.add (i * 4)).add 0) = some c0 ∧ W.cell? ((a.add (i * 4)).add 1) = some c1 ∧ W.cell? ((a.add (i * 4)).add 2) = some c2 ∧ W.cell? ((a.add (i * 4)).add 3) = some c3 ∧ DataW.trod enc Try.prog W 0 (fun _ => true) true n 40 [c0, c1, c2, c3] = some y := by
      intro i hi
      have h2 := he i hi
      rw [hc, List.getElem?_eq_getElem (by omega)] at h2
      cases h3 : W.cells? 0 (a.add (i * 4)) 4 with
      | none => rw [h3] at h2; simp at h2
      | some cs =>
        rw [h3] at h2
        simp only [Option.bind_some] at h2
        obtain ⟨c0, c1, c2, c3, rfl, k0, k1, k2, k3⟩ := cells4_ h3
        exact ⟨c0, c1, c2, c3, _, k0, k1, k2, k3, h2⟩
    have key : ∀ i, i < len → ∃ e : RE, ∃ b o, a = ⟨b, o, none⟩ ∧ W.cell? ⟨b, o + i * 4, none⟩ = some (.int .i64 e.u) ∧ W.cell? ⟨b, o + i * 4 + 1, none⟩ = some (.int .i64 e.v) ∧ W.cell? ⟨b, o + i * 4 + 2, none⟩ = some (.int .i64 e.cap) ∧ W.cell? ⟨b, o + i * 4 + 3, none⟩ = some (.int .i64 e.cost) := by
      intro i hi
      obtain ⟨b', o', rfl⟩ : ∃ b o, a = ⟨b, o, none⟩ := by
        obtain ⟨c0, _, _, _, _, k0, _⟩ := rd 0 (by omega)
        have h0 : (a.add (0 * 4)).add 0 = a := by simp [Addr.add]
        rw [h0] at k0
        have hs := World.cell?_spot k0
        obtain ⟨b, o, sp⟩ := a
        simp only at hs
        subst hs
        exact ⟨b, o, rfl⟩
      obtain ⟨c0, c1, c2, c3, yy, k0, k1, k2, k3, h2⟩ := rd i hi
      · simp only [HW.add_plain] at k0 k1 k2 k3
        obtain ⟨xs, m, _, _, _, hxs, hf⟩ := DataW.trod_struct Try.underlying40 h2
        have f0 : DataW.trod enc Try.prog W 0 (fun _ => true) true m 3 (List.take (Try.prog.cellsOf 3) [c0, c1, c2, c3]) = xs[0]? := hf 0 _ rfl
        have f1 : DataW.trod enc Try.prog W 0 (fun _ => true) true m 3 (List.take (Try.prog.cellsOf 3) [c1, c2, c3]) = xs[1]? := hf 1 _ rfl
        have f2 : DataW.trod enc Try.prog W 0 (fun _ => true) true m 2 (List.take (Try.prog.cellsOf 2) [c2, c3]) = xs[2]? := hf 2 _ rfl
        have f3 : DataW.trod enc Try.prog W 0 (fun _ => true) true m 2 (List.take (Try.prog.cellsOf 2) [c3]) = xs[3]? := hf 3 _ rfl
        have sz : xs.length = 4 := hxs
        rw [List.getElem?_eq_getElem (by omega)] at f0 f1 f2 f3
        have e3 : Try.prog.cellsOf 3 = 1 := by kernel_rfl
        have e2 : Try.prog.cellsOf 2 = 1 := by kernel_rfl
        simp only [e3, e2, List.take_succ_cons, List.take_zero] at f0 f1 f2 f3
        obtain ⟨n0, q0, _⟩ := DataW.trod_int Try.underlying3 f0
        obtain ⟨n1, q1, _⟩ := DataW.trod_int Try.underlying3 f1
        obtain ⟨n2, q2, _⟩ := DataW.trod_int Try.underlying2 f2
        obtain ⟨n3, q3, _⟩ := DataW.trod_int Try.underlying2 f3
        simp at q0 q1 q2 q3
        subst q0 q1 q2 q3
        exact ⟨⟨n0, n1, n2, n3⟩, b', o', rfl, k0, k1, k2, k3⟩
    have hes : ∃ es : List RE, es.length = len ∧ ∀ i e, es[i]? = some e → ∃ b o, a = ⟨b, o, none⟩ ∧ W.cell? ⟨b, o + i * 4, none⟩ = some (.int .i64 e.u) ∧ W.cell? ⟨b, o + i * 4 + 1, none⟩ = some (.int .i64 e.v) ∧ W.cell? ⟨b, o + i * 4 + 2, none⟩ = some (.int .i64 e.cap) ∧ W.cell? ⟨b, o + i * 4 + 3, none⟩ = some (.int .i64 e.cost) := by
      clear he
      have : ∀ k, k ≤ len → ∃ es : List RE, es.length = k ∧ ∀ i e, es[i]? = some e → ∃ b o, a = ⟨b, o, none⟩ ∧ W.cell? ⟨b, o + i * 4, none⟩ = some (.int .i64 e.u) ∧ W.cell? ⟨b, o + i * 4 + 1, none⟩ = some (.int .i64 e.v) ∧ W.cell? ⟨b, o + i * 4 + 2, none⟩ = some (.int .i64 e.cap) ∧ W.cell? ⟨b, o + i * 4 + 3, none⟩ = some (.int .i64 e.cost) := by
        intro k
        induction k with
        | zero => intro _; exact ⟨[], rfl, fun i e h => by simp at h⟩
        | succ k ih =>
          intro hk
          obtain ⟨es, hl, h⟩ := ih (by omega)
          obtain ⟨e, he⟩ := key k (by omega)
          refine ⟨es ++ [e], by simp [hl], fun i e' hi => ?_⟩
          rcases Nat.lt_or_ge i es.length with hlt | hge
          · rw [List.getElem?_append_left hlt] at hi
            exact h i e' hi
          · rw [List.getElem?_append_right hge] at hi
            have : i - es.length = 0 := by
              rcases Nat.eq_zero_or_pos (i - es.length) with h | h
              · exact h
              · rw [List.getElem?_eq_none (by simp; omega)] at hi; cases hi
            rw [this] at hi
            simp at hi
            subst hi
            have : i = k := by omega
            subst this
            exact he
      exact this len (Nat.le_refl _)
    obtain ⟨es, hl, h⟩ := hes
    refine ⟨es, ⟨some a, cap, by rw [hl], by omega, fun i e hi => ?_⟩, .inr ⟨_, _, by rw [hy], by rw [List.length_map, hll0, hl]⟩⟩
    obtain ⟨b, o, rfl, h0, h1, h2, h3⟩ := h i e hi
    exact ⟨b, o, rfl, h0, h1, h2, h3⟩

set_option maxRecDepth 100000 in
theorem open_graph {H : Type} {enc : TypeId × Value → H} {W : World} {base : Nat} {v : Value} {d : DataW H} {p : List MemPlace} (hv : Value.okWide Try.prog W .any base 25 v) (h : DataW.Trod enc Try.prog W 0 (fun _ => true) true 25 v d p) :
    ∃ (n : Int) (x : Value) (es : List RE), v = .agg #[.int .i64 n, x] ∧ ES (hOf W) x es ∧ (es = [] ∨ ∃ D R, d = .agg [.lit (.int .i64 n), .slice D R] ∧ D.length = es.length) := by
  obtain ⟨c0, c1, y0, y1, m, rfl, rfl, rfl, h0, h1⟩ := open_agg2 Try.underlying25 (by kernel_rfl) (by kernel_rfl) hv h
  obtain ⟨n, e0, e1, _⟩ := DataW.trod_int Try.underlying3 h0
  simp at e0
  subst e0
  obtain ⟨es, he, hD⟩ := open_edges h1
  refine ⟨n, c1, es, rfl, he, hD.imp id ?_⟩
  rintro ⟨D, R, hy, hl⟩
  exact ⟨D, R, by rw [e1, hy], hl⟩

theorem graph_weight {H : Type} {ts : List TypeId} {ds : List (DataW H)} {d : DataW H} {n : Int} {es : List RE} (hD : es = [] ∨ ∃ D R, d = .agg [.lit (.int .i64 n), .slice D R] ∧ D.length = es.length) (hw : (DataW.weightsEach Try.prog (25 :: ts) (d :: ds)).all (· ≤ reachBytes) = true) : es.length * 32 ≤ 140737488355328 := by
  rcases hD with rfl | ⟨D, R, rfl, hl⟩
  · simp
  · simp only [DataW.weightsEach, DataW.weights, Try.underlying25, Try.underlying23] at hw
    have hb : Try.prog.bytesOf 40 = 32 := by kernel_rfl
    simp [DataW.weightsEach, DataW.weights, Try.underlying23, hb] at hw
    have : reachBytes = 140737488351232 := rfl
    rw [← hl]
    have := hw.1
    omega

end Go.Proofs.Ythchjolcjicpgaa
