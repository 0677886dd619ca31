/-
  NARROWER THAN 'FOR EVERY INPUT', by the rows' own cells (each row's printed sentence says how): ModelValues: loops · ModelHolds: loops · ModelTurns: loops · ModelObjects: loops.
  DERIVED. THE GIVEN ROWS OF THIS SEAT. 4 by the template 'for every input the law returns true; each argument reads behind the call as it read before'; 0 by the template 'total and deterministic' (their statements: YtbnonccmlildnaaGreatTotals.lean).
  GIVEN WITH THE SEED: the statements are not yours to turn. If you find one false, say at which input.
  Laid BY PROGRAM, IN A SANDBOX (cutbox-rows.mjs): the forced cells as the released guide's own fill.sh prints them over the translation b127b5222116f594… (all of the seat's roots in one cut). By AI agents, Wed Nov 11 2026. No macro, syntax, notation, axiom, sorry.
-/
import Derived.Test.YtbnonccmlildnaaGreatChecked
import GoSem.Claim
import GoSem.ClaimJoined
import GoSem.ClaimMapViews
import Derived.JoinedTies
import Derived.KernelRfl
namespace Go.Proofs.YtbnonccmlildnaaGreat
/- THE CELL 'sum', in the pinned program and in every row, IS THE sha256 OF THE DUMP (.gsa) THAT YtbnonccmlildnaaGreatProg.lean LOADS. Nothing in Lean hashes anything: it is a label: what it is worth is what the hold of that sum in a sandbox is worth. -/
noncomputable def Tryz.pinned : Pinned := { name := "ytbnonccmlildnaagreat", sum := "b127b5222116f5943e86444b3f335810a4d6be18f05ca6bdcd5ac978f46a4e22", checked := Tryz.checked }
namespace Rows
def none {H : Type} : Left H := { results := [], args := [] }

/-- 'avowlaw4.ModelValues': WHATEVER THE INPUT: true; the input reads as it did. -/
def modelValuesSpec : ChangeSpec := { name := "modelValues", fn := fun _ => fun
  | [d1, d2, d3] => { results := [.lit (.bool true)], args := [d1, d2, d3] }
  | _ => none }
def modelValuesRow : OpenClaim := { program := "ytbnonccmlildnaagreat", sum := "b127b5222116f5943e86444b3f335810a4d6be18f05ca6bdcd5ac978f46a4e22", func := "avow/avowlaw4.ModelValues", spec := "modelValues", unfollowed := true, recurses := true, loops := true, apart := false }
def ModelValuesSaid : Prop := modelValuesRow.holds Tryz.pinned (OpenSpec.ofChange modelValuesSpec)

/-- ITS FALSE NEIGHBOUR: 'it returns false'. Refute it at one input. -/
def modelValuesWrong : ChangeSpec := { name := "modelValues", fn := fun _ => fun
  | [d1, d2, d3] => { results := [.lit (.bool false)], args := [d1, d2, d3] }
  | _ => none }
def ModelValuesWrongFalsely : Prop := modelValuesRow.holds Tryz.pinned (OpenSpec.ofChange modelValuesWrong)

/-- 'avowlaw4.ModelHolds': WHATEVER THE INPUT: true; the input reads as it did. -/
def modelHoldsSpec : ChangeSpec := { name := "modelHolds", fn := fun _ => fun
  | [d1, d2, d3] => { results := [.lit (.bool true)], args := [d1, d2, d3] }
  | _ => none }
def modelHoldsRow : OpenClaim := { program := "ytbnonccmlildnaagreat", sum := "b127b5222116f5943e86444b3f335810a4d6be18f05ca6bdcd5ac978f46a4e22", func := "avow/avowlaw4.ModelHolds", spec := "modelHolds", unfollowed := true, recurses := true, loops := true, apart := false }
def ModelHoldsSaid : Prop := modelHoldsRow.holds Tryz.pinned (OpenSpec.ofChange modelHoldsSpec)

/-- ITS FALSE NEIGHBOUR: 'it returns false'. Refute it at one input. -/
def modelHoldsWrong : ChangeSpec := { name := "modelHolds", fn := fun _ => fun
  | [d1, d2, d3] => { results := [.lit (.bool false)], args := [d1, d2, d3] }
  | _ => none }
def ModelHoldsWrongFalsely : Prop := modelHoldsRow.holds Tryz.pinned (OpenSpec.ofChange modelHoldsWrong)

/-- 'avowlaw4.ModelTurns': WHATEVER THE INPUT: true; the input reads as it did. -/
def modelTurnsSpec : ChangeSpec := { name := "modelTurns", fn := fun _ => fun
  | [d1, d2, d3, d4] => { results := [.lit (.bool true)], args := [d1, d2, d3, d4] }
  | _ => none }
def modelTurnsRow : OpenClaim := { program := "ytbnonccmlildnaagreat", sum := "b127b5222116f5943e86444b3f335810a4d6be18f05ca6bdcd5ac978f46a4e22", func := "avow/avowlaw4.ModelTurns", spec := "modelTurns", unfollowed := true, recurses := true, loops := true, apart := false }
def ModelTurnsSaid : Prop := modelTurnsRow.holds Tryz.pinned (OpenSpec.ofChange modelTurnsSpec)

/-- ITS FALSE NEIGHBOUR: 'it returns false'. Refute it at one input. -/
def modelTurnsWrong : ChangeSpec := { name := "modelTurns", fn := fun _ => fun
  | [d1, d2, d3, d4] => { results := [.lit (.bool false)], args := [d1, d2, d3, d4] }
  | _ => none }
def ModelTurnsWrongFalsely : Prop := modelTurnsRow.holds Tryz.pinned (OpenSpec.ofChange modelTurnsWrong)

/-- 'avowlaw4.ModelObjects': WHATEVER THE INPUT: true; the input reads as it did. -/
def modelObjectsSpec : ChangeSpec := { name := "modelObjects", fn := fun _ => fun
  | [d1, d2, d3] => { results := [.lit (.bool true)], args := [d1, d2, d3] }
  | _ => none }
def modelObjectsRow : OpenClaim := { program := "ytbnonccmlildnaagreat", sum := "b127b5222116f5943e86444b3f335810a4d6be18f05ca6bdcd5ac978f46a4e22", func := "avow/avowlaw4.ModelObjects", spec := "modelObjects", unfollowed := true, recurses := true, loops := true, apart := false }
def ModelObjectsSaid : Prop := modelObjectsRow.holds Tryz.pinned (OpenSpec.ofChange modelObjectsSpec)

/-- ITS FALSE NEIGHBOUR: 'it returns false'. Refute it at one input. -/
def modelObjectsWrong : ChangeSpec := { name := "modelObjects", fn := fun _ => fun
  | [d1, d2, d3] => { results := [.lit (.bool false)], args := [d1, d2, d3] }
  | _ => none }
def ModelObjectsWrongFalsely : Prop := modelObjectsRow.holds Tryz.pinned (OpenSpec.ofChange modelObjectsWrong)

/- THE SECOND FORM. 'bulk': how many values and letters a reading holds, each counted each time it is reached (what is shared counts as often as it is met; a slice's spare places count too). A statement '..UptoSaid' is the law's where the arguments, and the package variables that the reading takes, are together of bulk at most 1048576: NARROWER than '..Said'. Prove '..Said' where nothing that the law and all that it calls make is longer than what came in: it says more and counts as full. Else prove '..UptoSaid'. A law counts once. -/
mutual
def uptoBulk {H : Type} : DataW H → Nat
  | .lit (.string bytes) => bytes.length + 1
  | .lit _ => 1
  | .nil => 1
  | .ptr d => uptoBulk d + 1
  | .slice elems spare => uptoBulkAll elems + uptoBulkAll spare + 1
  | .agg parts => uptoBulkAll parts + 1
  | .iface _ d => uptoBulk d + 1
  | .map entries => uptoBulkEntries entries + 1
  | .held _ => 1
def uptoBulkAll {H : Type} : List (DataW H) → Nat
  | [] => 0
  | d :: r => uptoBulk d + uptoBulkAll r
def uptoBulkEntries {H : Type} : List (Lit × DataW H) → Nat
  | [] => 0
  | x :: r => uptoBulkEntry x + uptoBulkEntries r
def uptoBulkEntry {H : Type} : Lit × DataW H → Nat
  | (.string bytes, d) => bytes.length + uptoBulk d + 1
  | (_, d) => uptoBulk d + 1
 end
def uptoSmall : (H : Type) → List (DataW H) → Bool := fun _ ds => decide (uptoBulkAll ds ≤ 1048576)
def OpenSpec.upto (s : _root_.Go.ChangeSpec) : _root_.Go.OpenSpec := { _root_.Go.OpenSpec.ofChange s with cond := some uptoSmall }

/-- 'avowlaw4.ModelValues', WHERE WHAT IT READS IS OF BULK AT MOST 1048576: true; the input reads as it did. -/
def modelValuesUptoRow : OpenClaim := { program := "ytbnonccmlildnaagreat", sum := "b127b5222116f5943e86444b3f335810a4d6be18f05ca6bdcd5ac978f46a4e22", func := "avow/avowlaw4.ModelValues", spec := "modelValues", unfollowed := true, recurses := true, loops := true, apart := false, narrowed := true }
def ModelValuesUptoSaid : Prop := modelValuesUptoRow.holds Tryz.pinned (OpenSpec.upto modelValuesSpec)

/-- 'avowlaw4.ModelHolds', WHERE WHAT IT READS IS OF BULK AT MOST 1048576: true; the input reads as it did. -/
def modelHoldsUptoRow : OpenClaim := { program := "ytbnonccmlildnaagreat", sum := "b127b5222116f5943e86444b3f335810a4d6be18f05ca6bdcd5ac978f46a4e22", func := "avow/avowlaw4.ModelHolds", spec := "modelHolds", unfollowed := true, recurses := true, loops := true, apart := false, narrowed := true }
def ModelHoldsUptoSaid : Prop := modelHoldsUptoRow.holds Tryz.pinned (OpenSpec.upto modelHoldsSpec)

/-- 'avowlaw4.ModelTurns', WHERE WHAT IT READS IS OF BULK AT MOST 1048576: true; the input reads as it did. -/
def modelTurnsUptoRow : OpenClaim := { program := "ytbnonccmlildnaagreat", sum := "b127b5222116f5943e86444b3f335810a4d6be18f05ca6bdcd5ac978f46a4e22", func := "avow/avowlaw4.ModelTurns", spec := "modelTurns", unfollowed := true, recurses := true, loops := true, apart := false, narrowed := true }
def ModelTurnsUptoSaid : Prop := modelTurnsUptoRow.holds Tryz.pinned (OpenSpec.upto modelTurnsSpec)

/-- 'avowlaw4.ModelObjects', WHERE WHAT IT READS IS OF BULK AT MOST 1048576: true; the input reads as it did. -/
def modelObjectsUptoRow : OpenClaim := { program := "ytbnonccmlildnaagreat", sum := "b127b5222116f5943e86444b3f335810a4d6be18f05ca6bdcd5ac978f46a4e22", func := "avow/avowlaw4.ModelObjects", spec := "modelObjects", unfollowed := true, recurses := true, loops := true, apart := false, narrowed := true }
def ModelObjectsUptoSaid : Prop := modelObjectsUptoRow.holds Tryz.pinned (OpenSpec.upto modelObjectsSpec)

end Rows
end Go.Proofs.YtbnonccmlildnaaGreat
