/-
  No cell of these rows narrows 'for every input' (looked for: loops, veiled, ifaces, maps, wideKeys, modest, calm, conditions, laid).
  DERIVED. THE GIVEN ROWS OF THIS SEAT. 4 by the template 'for every input the law returns true; each argument reads behind the call as it read before'; 0 by the template 'total and deterministic' (their statements: YtaikjbfkbijlnaaGreatTotals.lean).
  GIVEN WITH THE SEED: the statements are not yours to turn. If you find one false, say at which input.
  Laid BY PROGRAM, IN A SANDBOX (cutbox-rows.mjs): the forced cells as the released guide's own fill.sh prints them over the translation 6af6c568bf21f272… (all of the seat's roots in one cut). By AI agents, Wed Nov 11 2026. No macro, syntax, notation, axiom, sorry.
-/
import Derived.Test.YtaikjbfkbijlnaaGreatChecked
import GoSem.Claim
import GoSem.ClaimJoined
import GoSem.ClaimMapViews
import Derived.JoinedTies
import Derived.KernelRfl
namespace Go.Proofs.YtaikjbfkbijlnaaGreat
/- THE CELL 'sum', in the pinned program and in every row, IS THE sha256 OF THE DUMP (.gsa) THAT YtaikjbfkbijlnaaGreatProg.lean LOADS. Nothing in Lean hashes anything: it is a label: what it is worth is what the hold of that sum in a sandbox is worth. -/
noncomputable def Tryz.pinned : Pinned := { name := "ytaikjbfkbijlnaagreat", sum := "6af6c568bf21f272f24abda35dd96f8ab1396247fa66230f83af4d1e460ac8a0", checked := Tryz.checked }
namespace Rows
def none {H : Type} : Left H := { results := [], args := [] }

/-- 'fathomlaw19.QueryTables': WHATEVER THE INPUT: true; the input reads as it did. -/
def queryTablesSpec : ChangeSpec := { name := "queryTables", fn := fun _ => fun
  | [d1, d2, d3, d4] => { results := [.lit (.bool true)], args := [d1, d2, d3, d4] }
  | _ => none }
def queryTablesRow : OpenClaim := { program := "ytaikjbfkbijlnaagreat", sum := "6af6c568bf21f272f24abda35dd96f8ab1396247fa66230f83af4d1e460ac8a0", func := "fathom/fathomlaw19.QueryTables", spec := "queryTables", unfollowed := true, recurses := true, apart := false }
def QueryTablesSaid : Prop := queryTablesRow.holds Tryz.pinned (OpenSpec.ofChange queryTablesSpec)

/-- ITS FALSE NEIGHBOUR: 'it returns false'. Refute it at one input. -/
def queryTablesWrong : ChangeSpec := { name := "queryTables", fn := fun _ => fun
  | [d1, d2, d3, d4] => { results := [.lit (.bool false)], args := [d1, d2, d3, d4] }
  | _ => none }
def QueryTablesWrongFalsely : Prop := queryTablesRow.holds Tryz.pinned (OpenSpec.ofChange queryTablesWrong)

/-- 'fathomlaw19.QueryNeeds': WHATEVER THE INPUT: true; the input reads as it did. -/
def queryNeedsSpec : ChangeSpec := { name := "queryNeeds", fn := fun _ => fun
  | [d1, d2, d3, d4] => { results := [.lit (.bool true)], args := [d1, d2, d3, d4] }
  | _ => none }
def queryNeedsRow : OpenClaim := { program := "ytaikjbfkbijlnaagreat", sum := "6af6c568bf21f272f24abda35dd96f8ab1396247fa66230f83af4d1e460ac8a0", func := "fathom/fathomlaw19.QueryNeeds", spec := "queryNeeds", unfollowed := true, recurses := true, apart := false }
def QueryNeedsSaid : Prop := queryNeedsRow.holds Tryz.pinned (OpenSpec.ofChange queryNeedsSpec)

/-- ITS FALSE NEIGHBOUR: 'it returns false'. Refute it at one input. -/
def queryNeedsWrong : ChangeSpec := { name := "queryNeeds", fn := fun _ => fun
  | [d1, d2, d3, d4] => { results := [.lit (.bool false)], args := [d1, d2, d3, d4] }
  | _ => none }
def QueryNeedsWrongFalsely : Prop := queryNeedsRow.holds Tryz.pinned (OpenSpec.ofChange queryNeedsWrong)

/-- 'fathomlaw19.QueryRead': WHATEVER THE INPUT: true; the input reads as it did. -/
def queryReadSpec : ChangeSpec := { name := "queryRead", fn := fun _ => fun
  | [d1, d2] => { results := [.lit (.bool true)], args := [d1, d2] }
  | _ => none }
def queryReadRow : OpenClaim := { program := "ytaikjbfkbijlnaagreat", sum := "6af6c568bf21f272f24abda35dd96f8ab1396247fa66230f83af4d1e460ac8a0", func := "fathom/fathomlaw19.QueryRead", spec := "queryRead", unfollowed := true, recurses := true, apart := false }
def QueryReadSaid : Prop := queryReadRow.holds Tryz.pinned (OpenSpec.ofChange queryReadSpec)

/-- ITS FALSE NEIGHBOUR: 'it returns false'. Refute it at one input. -/
def queryReadWrong : ChangeSpec := { name := "queryRead", fn := fun _ => fun
  | [d1, d2] => { results := [.lit (.bool false)], args := [d1, d2] }
  | _ => none }
def QueryReadWrongFalsely : Prop := queryReadRow.holds Tryz.pinned (OpenSpec.ofChange queryReadWrong)

/-- 'fathomlaw19.QueryKeep': WHATEVER THE INPUT: true; the input reads as it did. -/
def queryKeepSpec : ChangeSpec := { name := "queryKeep", fn := fun _ => fun
  | [d1, d2, d3] => { results := [.lit (.bool true)], args := [d1, d2, d3] }
  | _ => none }
def queryKeepRow : OpenClaim := { program := "ytaikjbfkbijlnaagreat", sum := "6af6c568bf21f272f24abda35dd96f8ab1396247fa66230f83af4d1e460ac8a0", func := "fathom/fathomlaw19.QueryKeep", spec := "queryKeep", unfollowed := true, recurses := true, apart := false }
def QueryKeepSaid : Prop := queryKeepRow.holds Tryz.pinned (OpenSpec.ofChange queryKeepSpec)

/-- ITS FALSE NEIGHBOUR: 'it returns false'. Refute it at one input. -/
def queryKeepWrong : ChangeSpec := { name := "queryKeep", fn := fun _ => fun
  | [d1, d2, d3] => { results := [.lit (.bool false)], args := [d1, d2, d3] }
  | _ => none }
def QueryKeepWrongFalsely : Prop := queryKeepRow.holds Tryz.pinned (OpenSpec.ofChange queryKeepWrong)

/- THE SECOND FORM. 'bulk': how many values and letters a reading holds, each counted each time it is reached (what is shared counts as often as it is met; a slice's spare places count too). A statement '..UptoSaid' is the law's where the arguments, and the package variables that the reading takes, are together of bulk at most 1048576: NARROWER than '..Said'. Prove '..Said' where nothing that the law and all that it calls make is longer than what came in: it says more and counts as full. Else prove '..UptoSaid'. A law counts once. -/
mutual
def uptoBulk {H : Type} : DataW H → Nat
  | .lit (.string bytes) => bytes.length + 1
  | .lit _ => 1
  | .nil => 1
  | .ptr d => uptoBulk d + 1
  | .slice elems spare => uptoBulkAll elems + uptoBulkAll spare + 1
  | .agg parts => uptoBulkAll parts + 1
  | .iface _ d => uptoBulk d + 1
  | .map entries => uptoBulkEntries entries + 1
  | .held _ => 1
def uptoBulkAll {H : Type} : List (DataW H) → Nat
  | [] => 0
  | d :: r => uptoBulk d + uptoBulkAll r
def uptoBulkEntries {H : Type} : List (Lit × DataW H) → Nat
  | [] => 0
  | x :: r => uptoBulkEntry x + uptoBulkEntries r
def uptoBulkEntry {H : Type} : Lit × DataW H → Nat
  | (.string bytes, d) => bytes.length + uptoBulk d + 1
  | (_, d) => uptoBulk d + 1
 end
def uptoSmall : (H : Type) → List (DataW H) → Bool := fun _ ds => decide (uptoBulkAll ds ≤ 1048576)
def OpenSpec.upto (s : _root_.Go.ChangeSpec) : _root_.Go.OpenSpec := { _root_.Go.OpenSpec.ofChange s with cond := some uptoSmall }

/-- 'fathomlaw19.QueryTables', WHERE WHAT IT READS IS OF BULK AT MOST 1048576: true; the input reads as it did. -/
def queryTablesUptoRow : OpenClaim := { program := "ytaikjbfkbijlnaagreat", sum := "6af6c568bf21f272f24abda35dd96f8ab1396247fa66230f83af4d1e460ac8a0", func := "fathom/fathomlaw19.QueryTables", spec := "queryTables", unfollowed := true, recurses := true, apart := false, narrowed := true }
def QueryTablesUptoSaid : Prop := queryTablesUptoRow.holds Tryz.pinned (OpenSpec.upto queryTablesSpec)

/-- 'fathomlaw19.QueryNeeds', WHERE WHAT IT READS IS OF BULK AT MOST 1048576: true; the input reads as it did. -/
def queryNeedsUptoRow : OpenClaim := { program := "ytaikjbfkbijlnaagreat", sum := "6af6c568bf21f272f24abda35dd96f8ab1396247fa66230f83af4d1e460ac8a0", func := "fathom/fathomlaw19.QueryNeeds", spec := "queryNeeds", unfollowed := true, recurses := true, apart := false, narrowed := true }
def QueryNeedsUptoSaid : Prop := queryNeedsUptoRow.holds Tryz.pinned (OpenSpec.upto queryNeedsSpec)

/-- 'fathomlaw19.QueryRead', WHERE WHAT IT READS IS OF BULK AT MOST 1048576: true; the input reads as it did. -/
def queryReadUptoRow : OpenClaim := { program := "ytaikjbfkbijlnaagreat", sum := "6af6c568bf21f272f24abda35dd96f8ab1396247fa66230f83af4d1e460ac8a0", func := "fathom/fathomlaw19.QueryRead", spec := "queryRead", unfollowed := true, recurses := true, apart := false, narrowed := true }
def QueryReadUptoSaid : Prop := queryReadUptoRow.holds Tryz.pinned (OpenSpec.upto queryReadSpec)

/-- 'fathomlaw19.QueryKeep', WHERE WHAT IT READS IS OF BULK AT MOST 1048576: true; the input reads as it did. -/
def queryKeepUptoRow : OpenClaim := { program := "ytaikjbfkbijlnaagreat", sum := "6af6c568bf21f272f24abda35dd96f8ab1396247fa66230f83af4d1e460ac8a0", func := "fathom/fathomlaw19.QueryKeep", spec := "queryKeep", unfollowed := true, recurses := true, apart := false, narrowed := true }
def QueryKeepUptoSaid : Prop := queryKeepUptoRow.holds Tryz.pinned (OpenSpec.upto queryKeepSpec)

end Rows
end Go.Proofs.YtaikjbfkbijlnaaGreat
