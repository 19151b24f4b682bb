/- BlossomProved: what blossom.Solve answers is taken by the proof, and with two sides as many edges are taken as by bimatch.Solve: for every input the law returns true. No conditions. -/
import Derived.Test.YthchjolcjicpgaaOpen
import Derived.Test.YthchjolcjicpgaaRows
import Derived.Test.YthchjolcjicpgaaCProved17
namespace Go.Proofs.Ythchjolcjicpgaa
open Go.HW
open Go.ChangeShapes Go.WideShapes Go.ChangeAt Go.RowKit

set_option maxRecDepth 100000 in
theorem blossomProved_lifted (os : Os) (started : os.Started) (H : Type) (enc : TypeId × Value → H) :
    ReturnsInHanded {} Try.checked os 12 .any (Rows.blossomProvedSpec.pre6 enc Try.prog Try.f12 Rows.blossomProvedRow.domain false) (Rows.blossomProvedSpec.post enc Try.prog Try.f12 false true false false) := by
  refine returnsInHanded_of_change (C := Try.checked) Try.own started (by kernel_rfl) Try.func12
    (ChangeSpec.witness6 (enc := enc) (C := Try.checked) false ⟨#[], #[.agg #[.int .i64 0, .slice none 0 0], .int .i64 0], []⟩ 8 (by kernel_rfl) (by kernel_rfl) (by kernel_rfl) (by kernel_rfl)) ?_
  intro W base args ds gs before hval0 hW hcnd _
  have hval : ∀ (j : Nat) t v, Try.f12.params[j]? = some t → args[j]? = some v → Value.okWide Try.prog W .any base t v := hval0
  have hW' := hW
  obtain ⟨p, q, hA0, hV, rfl, hfz, hnd⟩ := hW
  have hA : DataW.TrodAll enc Try.prog W 0 (fun _ => true) true Try.f12.params.toList args.toList ds p := hA0
  rw [Try.params12] at hA hval
  obtain ⟨v0, v1, d0, d1, p0, p1, rfl, rfl, rfl, h0, h1⟩ := trodAll_two hA
  obtain ⟨n, x, es, rfl, hES, _⟩ := open_graph (hval 0 25 v0 rfl rfl) h0
  obtain ⟨b, rfl, rfl, rfl, wb⟩ := open_int Try.underlying3 (hval 1 3 v1 rfl rfl) h1
  refine (proved17_c (left := b) hES).run.mono fun e W' ⟨⟨_, he⟩, bel⟩ => ?_
  exact ⟨_, he, row_post (tb := 4) Try.laidOut hW' rfl (by kernel_rfl) rfl (by kernel_rfl) Try.underlying4 bel⟩

theorem blossomProved_holds : Rows.BlossomProvedSaid :=
  OpenClaim.holds_of_wide 12 Try.f12 rfl rfl rfl rfl rfl rfl rfl ⟨rfl, rfl, rfl, rfl, rfl⟩ rfl rfl rfl rfl rfl (by kernel_rfl) Try.func12 (by kernel_rfl)
    (of_decide_eq_true (by kernel_rfl)) (by unfold Func.isWrapper; first | (rw [if_pos (by decide +kernel)]; kernel_rfl) | (rw [if_neg (by decide +kernel)]; exact ⟨rfl, rfl⟩))
    (fun os started H enc _ => blossomProved_lifted os started H enc)

end Go.Proofs.Ythchjolcjicpgaa
