/-
  No cell of these rows narrows 'for every input' (looked for: loops, veiled, ifaces, maps, wideKeys, modest, calm, conditions, laid).
  DERIVED. THE GIVEN ROWS OF THIS SEAT. 12 by the template 'for every input the law returns true; each argument reads behind the call as it read before'; 0 by the template 'total and deterministic' (their statements: YthchjolcjicpgaaTotals.lean).
  GIVEN WITH THE SEED: the statements are not yours to turn. If you find one false, say at which input.
  Laid BY PROGRAM, IN A SANDBOX (cutbox-rows.mjs): the forced cells as the released guide's own fill.sh prints them over the translation e2ca9b46da0d895e… (all of the seat's roots in one cut). By AI agents, Wed Nov 11 2026. No macro, syntax, notation, axiom, sorry.
-/
import Derived.Test.YthchjolcjicpgaaChecked
import GoSem.Claim
import GoSem.ClaimJoined
import GoSem.ClaimMapViews
import Derived.JoinedTies
import Derived.KernelRfl
namespace Go.Proofs.Ythchjolcjicpgaa
/- THE CELL 'sum', in the pinned program and in every row, IS THE sha256 OF THE DUMP (.gsa) THAT YthchjolcjicpgaaProg.lean LOADS. Nothing in Lean hashes anything: it is a label: what it is worth is what the hold of that sum in a sandbox is worth. -/
noncomputable def Try.pinned : Pinned := { name := "ythchjolcjicpgaa", sum := "e2ca9b46da0d895e5e28b6993f869e716c08594e3a26d2fd790337fab397006d", checked := Try.checked }
namespace Rows
def none {H : Type} : Left H := { results := [], args := [] }

/-- 'compasslaw15.PairEnds': WHATEVER THE INPUT: true; the input reads as it did. -/
def pairEndsSpec : ChangeSpec := { name := "pairEnds", fn := fun _ => fun
  | [d1, d2] => { results := [.lit (.bool true)], args := [d1, d2] }
  | _ => none }
def pairEndsRow : OpenClaim := { program := "ythchjolcjicpgaa", sum := "e2ca9b46da0d895e5e28b6993f869e716c08594e3a26d2fd790337fab397006d", func := "compass/compasslaw15.PairEnds", spec := "pairEnds", unfollowed := true, recurses := true, apart := false }
def PairEndsSaid : Prop := pairEndsRow.holds Try.pinned (OpenSpec.ofChange pairEndsSpec)

/-- ITS FALSE NEIGHBOUR: 'it returns false'. Refute it at one input. -/
def pairEndsWrong : ChangeSpec := { name := "pairEnds", fn := fun _ => fun
  | [d1, d2] => { results := [.lit (.bool false)], args := [d1, d2] }
  | _ => none }
def PairEndsWrongFalsely : Prop := pairEndsRow.holds Try.pinned (OpenSpec.ofChange pairEndsWrong)

/-- 'compasslaw15.PairProved': WHATEVER THE INPUT: true; the input reads as it did. -/
def pairProvedSpec : ChangeSpec := { name := "pairProved", fn := fun _ => fun
  | [d1, d2] => { results := [.lit (.bool true)], args := [d1, d2] }
  | _ => none }
def pairProvedRow : OpenClaim := { program := "ythchjolcjicpgaa", sum := "e2ca9b46da0d895e5e28b6993f869e716c08594e3a26d2fd790337fab397006d", func := "compass/compasslaw15.PairProved", spec := "pairProved", unfollowed := true, recurses := true, apart := false }
def PairProvedSaid : Prop := pairProvedRow.holds Try.pinned (OpenSpec.ofChange pairProvedSpec)

/-- ITS FALSE NEIGHBOUR: 'it returns false'. Refute it at one input. -/
def pairProvedWrong : ChangeSpec := { name := "pairProved", fn := fun _ => fun
  | [d1, d2] => { results := [.lit (.bool false)], args := [d1, d2] }
  | _ => none }
def PairProvedWrongFalsely : Prop := pairProvedRow.holds Try.pinned (OpenSpec.ofChange pairProvedWrong)

/-- 'compasslaw15.PairKeeps': WHATEVER THE INPUT: true; the input reads as it did. -/
def pairKeepsSpec : ChangeSpec := { name := "pairKeeps", fn := fun _ => fun
  | [d1, d2, d3] => { results := [.lit (.bool true)], args := [d1, d2, d3] }
  | _ => none }
def pairKeepsRow : OpenClaim := { program := "ythchjolcjicpgaa", sum := "e2ca9b46da0d895e5e28b6993f869e716c08594e3a26d2fd790337fab397006d", func := "compass/compasslaw15.PairKeeps", spec := "pairKeeps", unfollowed := true, recurses := true, apart := false }
def PairKeepsSaid : Prop := pairKeepsRow.holds Try.pinned (OpenSpec.ofChange pairKeepsSpec)

/-- ITS FALSE NEIGHBOUR: 'it returns false'. Refute it at one input. -/
def pairKeepsWrong : ChangeSpec := { name := "pairKeeps", fn := fun _ => fun
  | [d1, d2, d3] => { results := [.lit (.bool false)], args := [d1, d2, d3] }
  | _ => none }
def PairKeepsWrongFalsely : Prop := pairKeepsRow.holds Try.pinned (OpenSpec.ofChange pairKeepsWrong)

/-- 'compasslaw17.BlossomKeeps': WHATEVER THE INPUT: true; the input reads as it did. -/
def blossomKeepsSpec : ChangeSpec := { name := "blossomKeeps", fn := fun _ => fun
  | [d] => { results := [.lit (.bool true)], args := [d] }
  | _ => none }
def blossomKeepsRow : OpenClaim := { program := "ythchjolcjicpgaa", sum := "e2ca9b46da0d895e5e28b6993f869e716c08594e3a26d2fd790337fab397006d", func := "compass/compasslaw17.BlossomKeeps", spec := "blossomKeeps", unfollowed := true, recurses := true, apart := false }
def BlossomKeepsSaid : Prop := blossomKeepsRow.holds Try.pinned (OpenSpec.ofChange blossomKeepsSpec)

/-- ITS FALSE NEIGHBOUR: 'it returns false'. Refute it at one input. -/
def blossomKeepsWrong : ChangeSpec := { name := "blossomKeeps", fn := fun _ => fun
  | [d] => { results := [.lit (.bool false)], args := [d] }
  | _ => none }
def BlossomKeepsWrongFalsely : Prop := blossomKeepsRow.holds Try.pinned (OpenSpec.ofChange blossomKeepsWrong)

/-- 'compasslaw19.ManySolves': WHATEVER THE INPUT: true; the input reads as it did. -/
def manySolvesSpec : ChangeSpec := { name := "manySolves", fn := fun _ => fun
  | [d1, d2] => { results := [.lit (.bool true)], args := [d1, d2] }
  | _ => none }
def manySolvesRow : OpenClaim := { program := "ythchjolcjicpgaa", sum := "e2ca9b46da0d895e5e28b6993f869e716c08594e3a26d2fd790337fab397006d", func := "compass/compasslaw19.ManySolves", spec := "manySolves", unfollowed := true, recurses := true, apart := false }
def ManySolvesSaid : Prop := manySolvesRow.holds Try.pinned (OpenSpec.ofChange manySolvesSpec)

/-- ITS FALSE NEIGHBOUR: 'it returns false'. Refute it at one input. -/
def manySolvesWrong : ChangeSpec := { name := "manySolves", fn := fun _ => fun
  | [d1, d2] => { results := [.lit (.bool false)], args := [d1, d2] }
  | _ => none }
def ManySolvesWrongFalsely : Prop := manySolvesRow.holds Try.pinned (OpenSpec.ofChange manySolvesWrong)

/-- 'compasslaw19.ManySmall': WHATEVER THE INPUT: true; the input reads as it did. -/
def manySmallSpec : ChangeSpec := { name := "manySmall", fn := fun _ => fun
  | [d1, d2] => { results := [.lit (.bool true)], args := [d1, d2] }
  | _ => none }
def manySmallRow : OpenClaim := { program := "ythchjolcjicpgaa", sum := "e2ca9b46da0d895e5e28b6993f869e716c08594e3a26d2fd790337fab397006d", func := "compass/compasslaw19.ManySmall", spec := "manySmall", unfollowed := true, recurses := true, apart := false }
def ManySmallSaid : Prop := manySmallRow.holds Try.pinned (OpenSpec.ofChange manySmallSpec)

/-- ITS FALSE NEIGHBOUR: 'it returns false'. Refute it at one input. -/
def manySmallWrong : ChangeSpec := { name := "manySmall", fn := fun _ => fun
  | [d1, d2] => { results := [.lit (.bool false)], args := [d1, d2] }
  | _ => none }
def ManySmallWrongFalsely : Prop := manySmallRow.holds Try.pinned (OpenSpec.ofChange manySmallWrong)

/-- 'compasslaw19.ManyGrows': WHATEVER THE INPUT: true; the input reads as it did. -/
def manyGrowsSpec : ChangeSpec := { name := "manyGrows", fn := fun _ => fun
  | [d1, d2, d3] => { results := [.lit (.bool true)], args := [d1, d2, d3] }
  | _ => none }
def manyGrowsRow : OpenClaim := { program := "ythchjolcjicpgaa", sum := "e2ca9b46da0d895e5e28b6993f869e716c08594e3a26d2fd790337fab397006d", func := "compass/compasslaw19.ManyGrows", spec := "manyGrows", unfollowed := true, recurses := true, apart := false }
def ManyGrowsSaid : Prop := manyGrowsRow.holds Try.pinned (OpenSpec.ofChange manyGrowsSpec)

/-- ITS FALSE NEIGHBOUR: 'it returns false'. Refute it at one input. -/
def manyGrowsWrong : ChangeSpec := { name := "manyGrows", fn := fun _ => fun
  | [d1, d2, d3] => { results := [.lit (.bool false)], args := [d1, d2, d3] }
  | _ => none }
def ManyGrowsWrongFalsely : Prop := manyGrowsRow.holds Try.pinned (OpenSpec.ofChange manyGrowsWrong)

/-- 'compasslaw19.ManyProved': WHATEVER THE INPUT: true; the input reads as it did. -/
def manyProvedSpec : ChangeSpec := { name := "manyProved", fn := fun _ => fun
  | [d1, d2] => { results := [.lit (.bool true)], args := [d1, d2] }
  | _ => none }
def manyProvedRow : OpenClaim := { program := "ythchjolcjicpgaa", sum := "e2ca9b46da0d895e5e28b6993f869e716c08594e3a26d2fd790337fab397006d", func := "compass/compasslaw19.ManyProved", spec := "manyProved", unfollowed := true, recurses := true, apart := false }
def ManyProvedSaid : Prop := manyProvedRow.holds Try.pinned (OpenSpec.ofChange manyProvedSpec)

/-- ITS FALSE NEIGHBOUR: 'it returns false'. Refute it at one input. -/
def manyProvedWrong : ChangeSpec := { name := "manyProved", fn := fun _ => fun
  | [d1, d2] => { results := [.lit (.bool false)], args := [d1, d2] }
  | _ => none }
def ManyProvedWrongFalsely : Prop := manyProvedRow.holds Try.pinned (OpenSpec.ofChange manyProvedWrong)

/-- 'compasslaw19.ManyKeeps': WHATEVER THE INPUT: true; the input reads as it did. -/
def manyKeepsSpec : ChangeSpec := { name := "manyKeeps", fn := fun _ => fun
  | [d1, d2] => { results := [.lit (.bool true)], args := [d1, d2] }
  | _ => none }
def manyKeepsRow : OpenClaim := { program := "ythchjolcjicpgaa", sum := "e2ca9b46da0d895e5e28b6993f869e716c08594e3a26d2fd790337fab397006d", func := "compass/compasslaw19.ManyKeeps", spec := "manyKeeps", unfollowed := true, recurses := true, apart := false }
def ManyKeepsSaid : Prop := manyKeepsRow.holds Try.pinned (OpenSpec.ofChange manyKeepsSpec)

/-- ITS FALSE NEIGHBOUR: 'it returns false'. Refute it at one input. -/
def manyKeepsWrong : ChangeSpec := { name := "manyKeeps", fn := fun _ => fun
  | [d1, d2] => { results := [.lit (.bool false)], args := [d1, d2] }
  | _ => none }
def ManyKeepsWrongFalsely : Prop := manyKeepsRow.holds Try.pinned (OpenSpec.ofChange manyKeepsWrong)

/-- 'compasslaw17.BlossomProved': WHATEVER THE INPUT: true; the input reads as it did. -/
def blossomProvedSpec : ChangeSpec := { name := "blossomProved", fn := fun _ => fun
  | [d1, d2] => { results := [.lit (.bool true)], args := [d1, d2] }
  | _ => none }
def blossomProvedRow : OpenClaim := { program := "ythchjolcjicpgaa", sum := "e2ca9b46da0d895e5e28b6993f869e716c08594e3a26d2fd790337fab397006d", func := "compass/compasslaw17.BlossomProved", spec := "blossomProved", unfollowed := true, recurses := true, apart := false }
def BlossomProvedSaid : Prop := blossomProvedRow.holds Try.pinned (OpenSpec.ofChange blossomProvedSpec)

/-- ITS FALSE NEIGHBOUR: 'it returns false'. Refute it at one input. -/
def blossomProvedWrong : ChangeSpec := { name := "blossomProved", fn := fun _ => fun
  | [d1, d2] => { results := [.lit (.bool false)], args := [d1, d2] }
  | _ => none }
def BlossomProvedWrongFalsely : Prop := blossomProvedRow.holds Try.pinned (OpenSpec.ofChange blossomProvedWrong)

/-- 'compasslaw18.PerfectSolves': WHATEVER THE INPUT: true; the input reads as it did. -/
def perfectSolvesSpec : ChangeSpec := { name := "perfectSolves", fn := fun _ => fun
  | [d] => { results := [.lit (.bool true)], args := [d] }
  | _ => none }
def perfectSolvesRow : OpenClaim := { program := "ythchjolcjicpgaa", sum := "e2ca9b46da0d895e5e28b6993f869e716c08594e3a26d2fd790337fab397006d", func := "compass/compasslaw18.PerfectSolves", spec := "perfectSolves", unfollowed := true, recurses := true, apart := false }
def PerfectSolvesSaid : Prop := perfectSolvesRow.holds Try.pinned (OpenSpec.ofChange perfectSolvesSpec)

/-- ITS FALSE NEIGHBOUR: 'it returns false'. Refute it at one input. -/
def perfectSolvesWrong : ChangeSpec := { name := "perfectSolves", fn := fun _ => fun
  | [d] => { results := [.lit (.bool false)], args := [d] }
  | _ => none }
def PerfectSolvesWrongFalsely : Prop := perfectSolvesRow.holds Try.pinned (OpenSpec.ofChange perfectSolvesWrong)

/-- 'compasslaw18.PerfectSmall': WHATEVER THE INPUT: true; the input reads as it did. -/
def perfectSmallSpec : ChangeSpec := { name := "perfectSmall", fn := fun _ => fun
  | [d] => { results := [.lit (.bool true)], args := [d] }
  | _ => none }
def perfectSmallRow : OpenClaim := { program := "ythchjolcjicpgaa", sum := "e2ca9b46da0d895e5e28b6993f869e716c08594e3a26d2fd790337fab397006d", func := "compass/compasslaw18.PerfectSmall", spec := "perfectSmall", unfollowed := true, recurses := true, apart := false }
def PerfectSmallSaid : Prop := perfectSmallRow.holds Try.pinned (OpenSpec.ofChange perfectSmallSpec)

/-- ITS FALSE NEIGHBOUR: 'it returns false'. Refute it at one input. -/
def perfectSmallWrong : ChangeSpec := { name := "perfectSmall", fn := fun _ => fun
  | [d] => { results := [.lit (.bool false)], args := [d] }
  | _ => none }
def PerfectSmallWrongFalsely : Prop := perfectSmallRow.holds Try.pinned (OpenSpec.ofChange perfectSmallWrong)

/- THE SECOND FORM. 'bulk': how many values and letters a reading holds, each counted each time it is reached (what is shared counts as often as it is met; a slice's spare places count too). A statement '..UptoSaid' is the law's where the arguments, and the package variables that the reading takes, are together of bulk at most 1048576: NARROWER than '..Said'. Prove '..Said' where nothing that the law and all that it calls make is longer than what came in: it says more and counts as full. Else prove '..UptoSaid'. A law counts once. -/
mutual
def uptoBulk {H : Type} : DataW H → Nat
  | .lit (.string bytes) => bytes.length + 1
  | .lit _ => 1
  | .nil => 1
  | .ptr d => uptoBulk d + 1
  | .slice elems spare => uptoBulkAll elems + uptoBulkAll spare + 1
  | .agg parts => uptoBulkAll parts + 1
  | .iface _ d => uptoBulk d + 1
  | .map entries => uptoBulkEntries entries + 1
  | .held _ => 1
def uptoBulkAll {H : Type} : List (DataW H) → Nat
  | [] => 0
  | d :: r => uptoBulk d + uptoBulkAll r
def uptoBulkEntries {H : Type} : List (Lit × DataW H) → Nat
  | [] => 0
  | x :: r => uptoBulkEntry x + uptoBulkEntries r
def uptoBulkEntry {H : Type} : Lit × DataW H → Nat
  | (.string bytes, d) => bytes.length + uptoBulk d + 1
  | (_, d) => uptoBulk d + 1
 end
def uptoSmall : (H : Type) → List (DataW H) → Bool := fun _ ds => decide (uptoBulkAll ds ≤ 1048576)
def OpenSpec.upto (s : _root_.Go.ChangeSpec) : _root_.Go.OpenSpec := { _root_.Go.OpenSpec.ofChange s with cond := some uptoSmall }

/-- 'compasslaw15.PairEnds', WHERE WHAT IT READS IS OF BULK AT MOST 1048576: true; the input reads as it did. -/
def pairEndsUptoRow : OpenClaim := { program := "ythchjolcjicpgaa", sum := "e2ca9b46da0d895e5e28b6993f869e716c08594e3a26d2fd790337fab397006d", func := "compass/compasslaw15.PairEnds", spec := "pairEnds", unfollowed := true, recurses := true, apart := false, narrowed := true }
def PairEndsUptoSaid : Prop := pairEndsUptoRow.holds Try.pinned (OpenSpec.upto pairEndsSpec)

/-- 'compasslaw15.PairProved', WHERE WHAT IT READS IS OF BULK AT MOST 1048576: true; the input reads as it did. -/
def pairProvedUptoRow : OpenClaim := { program := "ythchjolcjicpgaa", sum := "e2ca9b46da0d895e5e28b6993f869e716c08594e3a26d2fd790337fab397006d", func := "compass/compasslaw15.PairProved", spec := "pairProved", unfollowed := true, recurses := true, apart := false, narrowed := true }
def PairProvedUptoSaid : Prop := pairProvedUptoRow.holds Try.pinned (OpenSpec.upto pairProvedSpec)

/-- 'compasslaw15.PairKeeps', WHERE WHAT IT READS IS OF BULK AT MOST 1048576: true; the input reads as it did. -/
def pairKeepsUptoRow : OpenClaim := { program := "ythchjolcjicpgaa", sum := "e2ca9b46da0d895e5e28b6993f869e716c08594e3a26d2fd790337fab397006d", func := "compass/compasslaw15.PairKeeps", spec := "pairKeeps", unfollowed := true, recurses := true, apart := false, narrowed := true }
def PairKeepsUptoSaid : Prop := pairKeepsUptoRow.holds Try.pinned (OpenSpec.upto pairKeepsSpec)

/-- 'compasslaw17.BlossomKeeps', WHERE WHAT IT READS IS OF BULK AT MOST 1048576: true; the input reads as it did. -/
def blossomKeepsUptoRow : OpenClaim := { program := "ythchjolcjicpgaa", sum := "e2ca9b46da0d895e5e28b6993f869e716c08594e3a26d2fd790337fab397006d", func := "compass/compasslaw17.BlossomKeeps", spec := "blossomKeeps", unfollowed := true, recurses := true, apart := false, narrowed := true }
def BlossomKeepsUptoSaid : Prop := blossomKeepsUptoRow.holds Try.pinned (OpenSpec.upto blossomKeepsSpec)

/-- 'compasslaw19.ManySolves', WHERE WHAT IT READS IS OF BULK AT MOST 1048576: true; the input reads as it did. -/
def manySolvesUptoRow : OpenClaim := { program := "ythchjolcjicpgaa", sum := "e2ca9b46da0d895e5e28b6993f869e716c08594e3a26d2fd790337fab397006d", func := "compass/compasslaw19.ManySolves", spec := "manySolves", unfollowed := true, recurses := true, apart := false, narrowed := true }
def ManySolvesUptoSaid : Prop := manySolvesUptoRow.holds Try.pinned (OpenSpec.upto manySolvesSpec)

/-- 'compasslaw19.ManySmall', WHERE WHAT IT READS IS OF BULK AT MOST 1048576: true; the input reads as it did. -/
def manySmallUptoRow : OpenClaim := { program := "ythchjolcjicpgaa", sum := "e2ca9b46da0d895e5e28b6993f869e716c08594e3a26d2fd790337fab397006d", func := "compass/compasslaw19.ManySmall", spec := "manySmall", unfollowed := true, recurses := true, apart := false, narrowed := true }
def ManySmallUptoSaid : Prop := manySmallUptoRow.holds Try.pinned (OpenSpec.upto manySmallSpec)

/-- 'compasslaw19.ManyGrows', WHERE WHAT IT READS IS OF BULK AT MOST 1048576: true; the input reads as it did. -/
def manyGrowsUptoRow : OpenClaim := { program := "ythchjolcjicpgaa", sum := "e2ca9b46da0d895e5e28b6993f869e716c08594e3a26d2fd790337fab397006d", func := "compass/compasslaw19.ManyGrows", spec := "manyGrows", unfollowed := true, recurses := true, apart := false, narrowed := true }
def ManyGrowsUptoSaid : Prop := manyGrowsUptoRow.holds Try.pinned (OpenSpec.upto manyGrowsSpec)

/-- 'compasslaw19.ManyProved', WHERE WHAT IT READS IS OF BULK AT MOST 1048576: true; the input reads as it did. -/
def manyProvedUptoRow : OpenClaim := { program := "ythchjolcjicpgaa", sum := "e2ca9b46da0d895e5e28b6993f869e716c08594e3a26d2fd790337fab397006d", func := "compass/compasslaw19.ManyProved", spec := "manyProved", unfollowed := true, recurses := true, apart := false, narrowed := true }
def ManyProvedUptoSaid : Prop := manyProvedUptoRow.holds Try.pinned (OpenSpec.upto manyProvedSpec)

/-- 'compasslaw19.ManyKeeps', WHERE WHAT IT READS IS OF BULK AT MOST 1048576: true; the input reads as it did. -/
def manyKeepsUptoRow : OpenClaim := { program := "ythchjolcjicpgaa", sum := "e2ca9b46da0d895e5e28b6993f869e716c08594e3a26d2fd790337fab397006d", func := "compass/compasslaw19.ManyKeeps", spec := "manyKeeps", unfollowed := true, recurses := true, apart := false, narrowed := true }
def ManyKeepsUptoSaid : Prop := manyKeepsUptoRow.holds Try.pinned (OpenSpec.upto manyKeepsSpec)

/-- 'compasslaw17.BlossomProved', WHERE WHAT IT READS IS OF BULK AT MOST 1048576: true; the input reads as it did. -/
def blossomProvedUptoRow : OpenClaim := { program := "ythchjolcjicpgaa", sum := "e2ca9b46da0d895e5e28b6993f869e716c08594e3a26d2fd790337fab397006d", func := "compass/compasslaw17.BlossomProved", spec := "blossomProved", unfollowed := true, recurses := true, apart := false, narrowed := true }
def BlossomProvedUptoSaid : Prop := blossomProvedUptoRow.holds Try.pinned (OpenSpec.upto blossomProvedSpec)

/-- 'compasslaw18.PerfectSolves', WHERE WHAT IT READS IS OF BULK AT MOST 1048576: true; the input reads as it did. -/
def perfectSolvesUptoRow : OpenClaim := { program := "ythchjolcjicpgaa", sum := "e2ca9b46da0d895e5e28b6993f869e716c08594e3a26d2fd790337fab397006d", func := "compass/compasslaw18.PerfectSolves", spec := "perfectSolves", unfollowed := true, recurses := true, apart := false, narrowed := true }
def PerfectSolvesUptoSaid : Prop := perfectSolvesUptoRow.holds Try.pinned (OpenSpec.upto perfectSolvesSpec)

/-- 'compasslaw18.PerfectSmall', WHERE WHAT IT READS IS OF BULK AT MOST 1048576: true; the input reads as it did. -/
def perfectSmallUptoRow : OpenClaim := { program := "ythchjolcjicpgaa", sum := "e2ca9b46da0d895e5e28b6993f869e716c08594e3a26d2fd790337fab397006d", func := "compass/compasslaw18.PerfectSmall", spec := "perfectSmall", unfollowed := true, recurses := true, apart := false, narrowed := true }
def PerfectSmallUptoSaid : Prop := perfectSmallUptoRow.holds Try.pinned (OpenSpec.upto perfectSmallSpec)

end Rows
end Go.Proofs.Ythchjolcjicpgaa
