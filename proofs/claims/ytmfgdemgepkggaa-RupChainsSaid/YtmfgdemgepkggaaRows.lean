/-
  No cell of these rows narrows 'for every input' (looked for: loops, veiled, ifaces, maps, wideKeys, modest, calm, conditions, laid).
  DERIVED. THE GIVEN ROWS OF THIS SEAT. 6 by the template 'for every input the law returns true; each argument reads behind the call as it read before'; 0 by the template 'total and deterministic' (their statements: YtmfgdemgepkggaaTotals.lean).
  GIVEN WITH THE SEED: the statements are not yours to turn. If you find one false, say at which input.
  Laid BY PROGRAM, IN A SANDBOX (cutbox-rows.mjs): the forced cells as the released guide's own fill.sh prints them over the translation 14299936e94a6466… (all of the seat's roots in one cut). By AI agents, Wed Nov 11 2026. No macro, syntax, notation, axiom, sorry.
-/
import Derived.Test.YtmfgdemgepkggaaChecked
import GoSem.Claim
import GoSem.ClaimJoined
import GoSem.ClaimMapViews
import Derived.JoinedTies
import Derived.KernelRfl
namespace Go.Proofs.Ytmfgdemgepkggaa
/- THE CELL 'sum', in the pinned program and in every row, IS THE sha256 OF THE DUMP (.gsa) THAT YtmfgdemgepkggaaProg.lean LOADS. Nothing in Lean hashes anything: it is a label: what it is worth is what the hold of that sum in a sandbox is worth. -/
noncomputable def Try.pinned : Pinned := { name := "ytmfgdemgepkggaa", sum := "14299936e94a6466f87ebcba2eef91d9eb897b8345a0832f8520a336e496df48", checked := Try.checked }
namespace Rows
def none {H : Type} : Left H := { results := [], args := [] }

/-- 'avowlaw7.RupFollows': WHATEVER THE INPUT: true; the input reads as it did. -/
def rupFollowsSpec : ChangeSpec := { name := "rupFollows", fn := fun _ => fun
  | [d1, d2, d3] => { results := [.lit (.bool true)], args := [d1, d2, d3] }
  | _ => none }
def rupFollowsRow : OpenClaim := { program := "ytmfgdemgepkggaa", sum := "14299936e94a6466f87ebcba2eef91d9eb897b8345a0832f8520a336e496df48", func := "avow/avowlaw7.RupFollows", spec := "rupFollows", unfollowed := true, recurses := true, apart := false }
def RupFollowsSaid : Prop := rupFollowsRow.holds Try.pinned (OpenSpec.ofChange rupFollowsSpec)

/-- ITS FALSE NEIGHBOUR: 'it returns false'. Refute it at one input. -/
def rupFollowsWrong : ChangeSpec := { name := "rupFollows", fn := fun _ => fun
  | [d1, d2, d3] => { results := [.lit (.bool false)], args := [d1, d2, d3] }
  | _ => none }
def RupFollowsWrongFalsely : Prop := rupFollowsRow.holds Try.pinned (OpenSpec.ofChange rupFollowsWrong)

/-- 'avowlaw7.RupChecks': WHATEVER THE INPUT: true; the input reads as it did. -/
def rupChecksSpec : ChangeSpec := { name := "rupChecks", fn := fun _ => fun
  | [d1, d2] => { results := [.lit (.bool true)], args := [d1, d2] }
  | _ => none }
def rupChecksRow : OpenClaim := { program := "ytmfgdemgepkggaa", sum := "14299936e94a6466f87ebcba2eef91d9eb897b8345a0832f8520a336e496df48", func := "avow/avowlaw7.RupChecks", spec := "rupChecks", unfollowed := true, recurses := true, apart := false }
def RupChecksSaid : Prop := rupChecksRow.holds Try.pinned (OpenSpec.ofChange rupChecksSpec)

/-- ITS FALSE NEIGHBOUR: 'it returns false'. Refute it at one input. -/
def rupChecksWrong : ChangeSpec := { name := "rupChecks", fn := fun _ => fun
  | [d1, d2] => { results := [.lit (.bool false)], args := [d1, d2] }
  | _ => none }
def RupChecksWrongFalsely : Prop := rupChecksRow.holds Try.pinned (OpenSpec.ofChange rupChecksWrong)

/-- 'avowlaw7.RupTrue': WHATEVER THE INPUT: true; the input reads as it did. -/
def rupTrueSpec : ChangeSpec := { name := "rupTrue", fn := fun _ => fun
  | [d1, d2] => { results := [.lit (.bool true)], args := [d1, d2] }
  | _ => none }
def rupTrueRow : OpenClaim := { program := "ytmfgdemgepkggaa", sum := "14299936e94a6466f87ebcba2eef91d9eb897b8345a0832f8520a336e496df48", func := "avow/avowlaw7.RupTrue", spec := "rupTrue", unfollowed := true, recurses := true, apart := false }
def RupTrueSaid : Prop := rupTrueRow.holds Try.pinned (OpenSpec.ofChange rupTrueSpec)

/-- ITS FALSE NEIGHBOUR: 'it returns false'. Refute it at one input. -/
def rupTrueWrong : ChangeSpec := { name := "rupTrue", fn := fun _ => fun
  | [d1, d2] => { results := [.lit (.bool false)], args := [d1, d2] }
  | _ => none }
def RupTrueWrongFalsely : Prop := rupTrueRow.holds Try.pinned (OpenSpec.ofChange rupTrueWrong)

/-- 'avowlaw7.RupGrows': WHATEVER THE INPUT: true; the input reads as it did. -/
def rupGrowsSpec : ChangeSpec := { name := "rupGrows", fn := fun _ => fun
  | [d1, d2, d3, d4] => { results := [.lit (.bool true)], args := [d1, d2, d3, d4] }
  | _ => none }
def rupGrowsRow : OpenClaim := { program := "ytmfgdemgepkggaa", sum := "14299936e94a6466f87ebcba2eef91d9eb897b8345a0832f8520a336e496df48", func := "avow/avowlaw7.RupGrows", spec := "rupGrows", unfollowed := true, recurses := true, apart := false }
def RupGrowsSaid : Prop := rupGrowsRow.holds Try.pinned (OpenSpec.ofChange rupGrowsSpec)

/-- ITS FALSE NEIGHBOUR: 'it returns false'. Refute it at one input. -/
def rupGrowsWrong : ChangeSpec := { name := "rupGrows", fn := fun _ => fun
  | [d1, d2, d3, d4] => { results := [.lit (.bool false)], args := [d1, d2, d3, d4] }
  | _ => none }
def RupGrowsWrongFalsely : Prop := rupGrowsRow.holds Try.pinned (OpenSpec.ofChange rupGrowsWrong)

/-- 'avowlaw7.RupChains': WHATEVER THE INPUT: true; the input reads as it did. -/
def rupChainsSpec : ChangeSpec := { name := "rupChains", fn := fun _ => fun
  | [d1, d2, d3] => { results := [.lit (.bool true)], args := [d1, d2, d3] }
  | _ => none }
def rupChainsRow : OpenClaim := { program := "ytmfgdemgepkggaa", sum := "14299936e94a6466f87ebcba2eef91d9eb897b8345a0832f8520a336e496df48", func := "avow/avowlaw7.RupChains", spec := "rupChains", unfollowed := true, recurses := true, apart := false }
def RupChainsSaid : Prop := rupChainsRow.holds Try.pinned (OpenSpec.ofChange rupChainsSpec)

/-- ITS FALSE NEIGHBOUR: 'it returns false'. Refute it at one input. -/
def rupChainsWrong : ChangeSpec := { name := "rupChains", fn := fun _ => fun
  | [d1, d2, d3] => { results := [.lit (.bool false)], args := [d1, d2, d3] }
  | _ => none }
def RupChainsWrongFalsely : Prop := rupChainsRow.holds Try.pinned (OpenSpec.ofChange rupChainsWrong)

/-- 'avowlaw7.RupEmpty': WHATEVER THE INPUT: true; the input reads as it did. -/
def rupEmptySpec : ChangeSpec := { name := "rupEmpty", fn := fun _ => fun
  | [d1, d2, d3] => { results := [.lit (.bool true)], args := [d1, d2, d3] }
  | _ => none }
def rupEmptyRow : OpenClaim := { program := "ytmfgdemgepkggaa", sum := "14299936e94a6466f87ebcba2eef91d9eb897b8345a0832f8520a336e496df48", func := "avow/avowlaw7.RupEmpty", spec := "rupEmpty", unfollowed := true, recurses := true, apart := false }
def RupEmptySaid : Prop := rupEmptyRow.holds Try.pinned (OpenSpec.ofChange rupEmptySpec)

/-- ITS FALSE NEIGHBOUR: 'it returns false'. Refute it at one input. -/
def rupEmptyWrong : ChangeSpec := { name := "rupEmpty", fn := fun _ => fun
  | [d1, d2, d3] => { results := [.lit (.bool false)], args := [d1, d2, d3] }
  | _ => none }
def RupEmptyWrongFalsely : Prop := rupEmptyRow.holds Try.pinned (OpenSpec.ofChange rupEmptyWrong)

/- THE SECOND FORM. 'bulk': how many values and letters a reading holds, each counted each time it is reached (what is shared counts as often as it is met; a slice's spare places count too). A statement '..UptoSaid' is the law's where the arguments, and the package variables that the reading takes, are together of bulk at most 1048576: NARROWER than '..Said'. Prove '..Said' where nothing that the law and all that it calls make is longer than what came in: it says more and counts as full. Else prove '..UptoSaid'. A law counts once. -/
mutual
def uptoBulk {H : Type} : DataW H → Nat
  | .lit (.string bytes) => bytes.length + 1
  | .lit _ => 1
  | .nil => 1
  | .ptr d => uptoBulk d + 1
  | .slice elems spare => uptoBulkAll elems + uptoBulkAll spare + 1
  | .agg parts => uptoBulkAll parts + 1
  | .iface _ d => uptoBulk d + 1
  | .map entries => uptoBulkEntries entries + 1
  | .held _ => 1
def uptoBulkAll {H : Type} : List (DataW H) → Nat
  | [] => 0
  | d :: r => uptoBulk d + uptoBulkAll r
def uptoBulkEntries {H : Type} : List (Lit × DataW H) → Nat
  | [] => 0
  | x :: r => uptoBulkEntry x + uptoBulkEntries r
def uptoBulkEntry {H : Type} : Lit × DataW H → Nat
  | (.string bytes, d) => bytes.length + uptoBulk d + 1
  | (_, d) => uptoBulk d + 1
 end
def uptoSmall : (H : Type) → List (DataW H) → Bool := fun _ ds => decide (uptoBulkAll ds ≤ 1048576)
def OpenSpec.upto (s : _root_.Go.ChangeSpec) : _root_.Go.OpenSpec := { _root_.Go.OpenSpec.ofChange s with cond := some uptoSmall }

/-- 'avowlaw7.RupFollows', WHERE WHAT IT READS IS OF BULK AT MOST 1048576: true; the input reads as it did. -/
def rupFollowsUptoRow : OpenClaim := { program := "ytmfgdemgepkggaa", sum := "14299936e94a6466f87ebcba2eef91d9eb897b8345a0832f8520a336e496df48", func := "avow/avowlaw7.RupFollows", spec := "rupFollows", unfollowed := true, recurses := true, apart := false, narrowed := true }
def RupFollowsUptoSaid : Prop := rupFollowsUptoRow.holds Try.pinned (OpenSpec.upto rupFollowsSpec)

/-- 'avowlaw7.RupChecks', WHERE WHAT IT READS IS OF BULK AT MOST 1048576: true; the input reads as it did. -/
def rupChecksUptoRow : OpenClaim := { program := "ytmfgdemgepkggaa", sum := "14299936e94a6466f87ebcba2eef91d9eb897b8345a0832f8520a336e496df48", func := "avow/avowlaw7.RupChecks", spec := "rupChecks", unfollowed := true, recurses := true, apart := false, narrowed := true }
def RupChecksUptoSaid : Prop := rupChecksUptoRow.holds Try.pinned (OpenSpec.upto rupChecksSpec)

/-- 'avowlaw7.RupTrue', WHERE WHAT IT READS IS OF BULK AT MOST 1048576: true; the input reads as it did. -/
def rupTrueUptoRow : OpenClaim := { program := "ytmfgdemgepkggaa", sum := "14299936e94a6466f87ebcba2eef91d9eb897b8345a0832f8520a336e496df48", func := "avow/avowlaw7.RupTrue", spec := "rupTrue", unfollowed := true, recurses := true, apart := false, narrowed := true }
def RupTrueUptoSaid : Prop := rupTrueUptoRow.holds Try.pinned (OpenSpec.upto rupTrueSpec)

/-- 'avowlaw7.RupGrows', WHERE WHAT IT READS IS OF BULK AT MOST 1048576: true; the input reads as it did. -/
def rupGrowsUptoRow : OpenClaim := { program := "ytmfgdemgepkggaa", sum := "14299936e94a6466f87ebcba2eef91d9eb897b8345a0832f8520a336e496df48", func := "avow/avowlaw7.RupGrows", spec := "rupGrows", unfollowed := true, recurses := true, apart := false, narrowed := true }
def RupGrowsUptoSaid : Prop := rupGrowsUptoRow.holds Try.pinned (OpenSpec.upto rupGrowsSpec)

/-- 'avowlaw7.RupChains', WHERE WHAT IT READS IS OF BULK AT MOST 1048576: true; the input reads as it did. -/
def rupChainsUptoRow : OpenClaim := { program := "ytmfgdemgepkggaa", sum := "14299936e94a6466f87ebcba2eef91d9eb897b8345a0832f8520a336e496df48", func := "avow/avowlaw7.RupChains", spec := "rupChains", unfollowed := true, recurses := true, apart := false, narrowed := true }
def RupChainsUptoSaid : Prop := rupChainsUptoRow.holds Try.pinned (OpenSpec.upto rupChainsSpec)

/-- 'avowlaw7.RupEmpty', WHERE WHAT IT READS IS OF BULK AT MOST 1048576: true; the input reads as it did. -/
def rupEmptyUptoRow : OpenClaim := { program := "ytmfgdemgepkggaa", sum := "14299936e94a6466f87ebcba2eef91d9eb897b8345a0832f8520a336e496df48", func := "avow/avowlaw7.RupEmpty", spec := "rupEmpty", unfollowed := true, recurses := true, apart := false, narrowed := true }
def RupEmptyUptoSaid : Prop := rupEmptyUptoRow.holds Try.pinned (OpenSpec.upto rupEmptySpec)

end Rows
end Go.Proofs.Ytmfgdemgepkggaa
