/- BlossomKeeps: what is handed to blossom.Solve is left as it was, and its answers are new memory: for every input the law returns true. No conditions. -/
import Derived.Test.YthchjolcjicpgaaOpen
import Derived.SizedLaws
import Derived.Test.YthchjolcjicpgaaRows
import Derived.Test.YthchjolcjicpgaaCKeeps17
namespace Go.Proofs.Ythchjolcjicpgaa
open Go.HW
open Go.ChangeShapes Go.WideShapes Go.ChangeAt Go.RowKit

set_option maxRecDepth 100000 in
theorem blossomKeeps_lifted (os : Os) (started : os.Started) (H : Type) (enc : TypeId × Value → H) :
    ReturnsInHanded {} Try.checked os 6 .any (Rows.blossomKeepsSpec.pre6 enc Try.prog Try.f6 Rows.blossomKeepsRow.domain false) (Rows.blossomKeepsSpec.post enc Try.prog Try.f6 false true false false) := by
  refine returnsInHanded_of_change_sized (C := Try.checked) Try.own started (by kernel_rfl) Try.func6
    (ChangeSpec.witness6 (enc := enc) (C := Try.checked) false ⟨#[], #[.agg #[.int .i64 0, .slice none 0 0]], []⟩ 8 (by kernel_rfl) (by kernel_rfl) (by kernel_rfl) (by kernel_rfl)) ?_
  intro W base args ds gs before hval0 hW hcnd hwt _
  have hval : ∀ (j : Nat) t v, Try.f6.params[j]? = some t → args[j]? = some v → Value.okWide Try.prog W .any base t v := hval0
  have hW' := hW
  obtain ⟨p, q, hA0, hV, rfl, hfz, hnd⟩ := hW
  have hA : DataW.TrodAll enc Try.prog W 0 (fun _ => true) true Try.f6.params.toList args.toList ds p := hA0
  rw [Try.params6] at hA hval
  obtain ⟨v0, d0, rfl, rfl, h0⟩ := trodAll_one hA
  obtain ⟨n, x, es, rfl, hES, hD⟩ := open_graph (hval 0 25 v0 rfl rfl) h0
  have hgs : gs = [] := by
    cases gs with
    | nil => rfl
    | cons g gs => exact hV.elim
  subst hgs
  refine (keeps17_c hES (graph_weight hD hwt)).run.mono fun e W' ⟨⟨_, he⟩, bel⟩ => ?_
  exact ⟨_, he, row_post (tb := 4) Try.laidOut hW' rfl (by kernel_rfl) rfl (by kernel_rfl) Try.underlying4 bel⟩

theorem blossomKeeps_holds : Rows.BlossomKeepsSaid :=
  OpenClaim.holds_of_wide 6 Try.f6 rfl rfl rfl rfl rfl rfl rfl ⟨rfl, rfl, rfl, rfl, rfl⟩ rfl rfl rfl rfl rfl (by kernel_rfl) Try.func6 (by kernel_rfl)
    (of_decide_eq_true (by kernel_rfl)) (by unfold Func.isWrapper; first | (rw [if_pos (by decide +kernel)]; kernel_rfl) | (rw [if_neg (by decide +kernel)]; exact ⟨rfl, rfl⟩))
    (fun os started H enc _ => blossomKeeps_lifted os started H enc)

end Go.Proofs.Ythchjolcjicpgaa
