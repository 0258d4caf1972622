/-
  No cell of these rows narrows 'for every input' (looked for: loops, veiled, ifaces, maps, wideKeys, modest, calm, conditions, laid).
  DERIVED. THE GIVEN ROWS OF THIS SEAT. 5 by the template 'for every input the law returns true; each argument reads behind the call as it read before'; 0 by the template 'total and deterministic' (their statements: YtgkidgpdgcdgnaaTotals.lean).
  GIVEN WITH THE SEED: the statements are not yours to turn. If you find one false, say at which input.
  Laid BY PROGRAM, IN A SANDBOX (cutbox-rows.mjs): the forced cells as the released guide's own fill.sh prints them over the translation 8ee20a96096e5547… (all of the seat's roots in one cut). By AI agents, Wed Nov 11 2026. No macro, syntax, notation, axiom, sorry.
-/
import Derived.Test.YtgkidgpdgcdgnaaChecked
import GoSem.Claim
import GoSem.ClaimJoined
import GoSem.ClaimMapViews
import Derived.JoinedTies
import Derived.KernelRfl
namespace Go.Proofs.Ytgkidgpdgcdgnaa
/- THE CELL 'sum', in the pinned program and in every row, IS THE sha256 OF THE DUMP (.gsa) THAT YtgkidgpdgcdgnaaProg.lean LOADS. Nothing in Lean hashes anything: it is a label: what it is worth is what the hold of that sum in a sandbox is worth. -/
noncomputable def Try.pinned : Pinned := { name := "ytgkidgpdgcdgnaa", sum := "8ee20a96096e55477dabe7350d5b3dafe530fec0b1850098c1b74511f7a0c110", checked := Try.checked }
namespace Rows
def none {H : Type} : Left H := { results := [], args := [] }

/-- 'wainscotlaw26.EdgeTells': WHATEVER THE INPUT: true; the input reads as it did. -/
def edgeTellsSpec : ChangeSpec := { name := "edgeTells", fn := fun _ => fun
  | [d1, d2, d3, d4, d5, d6] => { results := [.lit (.bool true)], args := [d1, d2, d3, d4, d5, d6] }
  | _ => none }
def edgeTellsRow : OpenClaim := { program := "ytgkidgpdgcdgnaa", sum := "8ee20a96096e55477dabe7350d5b3dafe530fec0b1850098c1b74511f7a0c110", func := "wainscot/wainscotlaw26.EdgeTells", spec := "edgeTells", unfollowed := true, recurses := true, apart := false }
def EdgeTellsSaid : Prop := edgeTellsRow.holds Try.pinned (OpenSpec.ofChange edgeTellsSpec)

/-- ITS FALSE NEIGHBOUR: 'it returns false'. Refute it at one input. -/
def edgeTellsWrong : ChangeSpec := { name := "edgeTells", fn := fun _ => fun
  | [d1, d2, d3, d4, d5, d6] => { results := [.lit (.bool false)], args := [d1, d2, d3, d4, d5, d6] }
  | _ => none }
def EdgeTellsWrongFalsely : Prop := edgeTellsRow.holds Try.pinned (OpenSpec.ofChange edgeTellsWrong)

/-- 'wainscotlaw26.EdgeShares': WHATEVER THE INPUT: true; the input reads as it did. -/
def edgeSharesSpec : ChangeSpec := { name := "edgeShares", fn := fun _ => fun
  | [d1, d2, d3, d4] => { results := [.lit (.bool true)], args := [d1, d2, d3, d4] }
  | _ => none }
def edgeSharesRow : OpenClaim := { program := "ytgkidgpdgcdgnaa", sum := "8ee20a96096e55477dabe7350d5b3dafe530fec0b1850098c1b74511f7a0c110", func := "wainscot/wainscotlaw26.EdgeShares", spec := "edgeShares", unfollowed := true, recurses := true, apart := false }
def EdgeSharesSaid : Prop := edgeSharesRow.holds Try.pinned (OpenSpec.ofChange edgeSharesSpec)

/-- ITS FALSE NEIGHBOUR: 'it returns false'. Refute it at one input. -/
def edgeSharesWrong : ChangeSpec := { name := "edgeShares", fn := fun _ => fun
  | [d1, d2, d3, d4] => { results := [.lit (.bool false)], args := [d1, d2, d3, d4] }
  | _ => none }
def EdgeSharesWrongFalsely : Prop := edgeSharesRow.holds Try.pinned (OpenSpec.ofChange edgeSharesWrong)

/-- 'wainscotlaw26.EdgeSums': WHATEVER THE INPUT: true; the input reads as it did. -/
def edgeSumsSpec : ChangeSpec := { name := "edgeSums", fn := fun _ => fun
  | [d] => { results := [.lit (.bool true)], args := [d] }
  | _ => none }
def edgeSumsRow : OpenClaim := { program := "ytgkidgpdgcdgnaa", sum := "8ee20a96096e55477dabe7350d5b3dafe530fec0b1850098c1b74511f7a0c110", func := "wainscot/wainscotlaw26.EdgeSums", spec := "edgeSums", unfollowed := true, recurses := true, apart := false }
def EdgeSumsSaid : Prop := edgeSumsRow.holds Try.pinned (OpenSpec.ofChange edgeSumsSpec)

/-- ITS FALSE NEIGHBOUR: 'it returns false'. Refute it at one input. -/
def edgeSumsWrong : ChangeSpec := { name := "edgeSums", fn := fun _ => fun
  | [d] => { results := [.lit (.bool false)], args := [d] }
  | _ => none }
def EdgeSumsWrongFalsely : Prop := edgeSumsRow.holds Try.pinned (OpenSpec.ofChange edgeSumsWrong)

/-- 'wainscotlaw26.EdgeFan': WHATEVER THE INPUT: true; the input reads as it did. -/
def edgeFanSpec : ChangeSpec := { name := "edgeFan", fn := fun _ => fun
  | [d1, d2, d3, d4] => { results := [.lit (.bool true)], args := [d1, d2, d3, d4] }
  | _ => none }
def edgeFanRow : OpenClaim := { program := "ytgkidgpdgcdgnaa", sum := "8ee20a96096e55477dabe7350d5b3dafe530fec0b1850098c1b74511f7a0c110", func := "wainscot/wainscotlaw26.EdgeFan", spec := "edgeFan", unfollowed := true, recurses := true, apart := false }
def EdgeFanSaid : Prop := edgeFanRow.holds Try.pinned (OpenSpec.ofChange edgeFanSpec)

/-- ITS FALSE NEIGHBOUR: 'it returns false'. Refute it at one input. -/
def edgeFanWrong : ChangeSpec := { name := "edgeFan", fn := fun _ => fun
  | [d1, d2, d3, d4] => { results := [.lit (.bool false)], args := [d1, d2, d3, d4] }
  | _ => none }
def EdgeFanWrongFalsely : Prop := edgeFanRow.holds Try.pinned (OpenSpec.ofChange edgeFanWrong)

/-- 'wainscotlaw26.EdgeMoves': WHATEVER THE INPUT: true; the input reads as it did. -/
def edgeMovesSpec : ChangeSpec := { name := "edgeMoves", fn := fun _ => fun
  | [d1, d2, d3] => { results := [.lit (.bool true)], args := [d1, d2, d3] }
  | _ => none }
def edgeMovesRow : OpenClaim := { program := "ytgkidgpdgcdgnaa", sum := "8ee20a96096e55477dabe7350d5b3dafe530fec0b1850098c1b74511f7a0c110", func := "wainscot/wainscotlaw26.EdgeMoves", spec := "edgeMoves", unfollowed := true, recurses := true, apart := false }
def EdgeMovesSaid : Prop := edgeMovesRow.holds Try.pinned (OpenSpec.ofChange edgeMovesSpec)

/-- ITS FALSE NEIGHBOUR: 'it returns false'. Refute it at one input. -/
def edgeMovesWrong : ChangeSpec := { name := "edgeMoves", fn := fun _ => fun
  | [d1, d2, d3] => { results := [.lit (.bool false)], args := [d1, d2, d3] }
  | _ => none }
def EdgeMovesWrongFalsely : Prop := edgeMovesRow.holds Try.pinned (OpenSpec.ofChange edgeMovesWrong)

/- THE SECOND FORM. 'bulk': how many values and letters a reading holds, each counted each time it is reached (what is shared counts as often as it is met; a slice's spare places count too). A statement '..UptoSaid' is the law's where the arguments, and the package variables that the reading takes, are together of bulk at most 1048576: NARROWER than '..Said'. Prove '..Said' where nothing that the law and all that it calls make is longer than what came in: it says more and counts as full. Else prove '..UptoSaid'. A law counts once. -/
mutual
def uptoBulk {H : Type} : DataW H → Nat
  | .lit (.string bytes) => bytes.length + 1
  | .lit _ => 1
  | .nil => 1
  | .ptr d => uptoBulk d + 1
  | .slice elems spare => uptoBulkAll elems + uptoBulkAll spare + 1
  | .agg parts => uptoBulkAll parts + 1
  | .iface _ d => uptoBulk d + 1
  | .map entries => uptoBulkEntries entries + 1
  | .held _ => 1
def uptoBulkAll {H : Type} : List (DataW H) → Nat
  | [] => 0
  | d :: r => uptoBulk d + uptoBulkAll r
def uptoBulkEntries {H : Type} : List (Lit × DataW H) → Nat
  | [] => 0
  | x :: r => uptoBulkEntry x + uptoBulkEntries r
def uptoBulkEntry {H : Type} : Lit × DataW H → Nat
  | (.string bytes, d) => bytes.length + uptoBulk d + 1
  | (_, d) => uptoBulk d + 1
 end
def uptoSmall : (H : Type) → List (DataW H) → Bool := fun _ ds => decide (uptoBulkAll ds ≤ 1048576)
def OpenSpec.upto (s : _root_.Go.ChangeSpec) : _root_.Go.OpenSpec := { _root_.Go.OpenSpec.ofChange s with cond := some uptoSmall }

/-- 'wainscotlaw26.EdgeTells', WHERE WHAT IT READS IS OF BULK AT MOST 1048576: true; the input reads as it did. -/
def edgeTellsUptoRow : OpenClaim := { program := "ytgkidgpdgcdgnaa", sum := "8ee20a96096e55477dabe7350d5b3dafe530fec0b1850098c1b74511f7a0c110", func := "wainscot/wainscotlaw26.EdgeTells", spec := "edgeTells", unfollowed := true, recurses := true, apart := false, narrowed := true }
def EdgeTellsUptoSaid : Prop := edgeTellsUptoRow.holds Try.pinned (OpenSpec.upto edgeTellsSpec)

/-- 'wainscotlaw26.EdgeShares', WHERE WHAT IT READS IS OF BULK AT MOST 1048576: true; the input reads as it did. -/
def edgeSharesUptoRow : OpenClaim := { program := "ytgkidgpdgcdgnaa", sum := "8ee20a96096e55477dabe7350d5b3dafe530fec0b1850098c1b74511f7a0c110", func := "wainscot/wainscotlaw26.EdgeShares", spec := "edgeShares", unfollowed := true, recurses := true, apart := false, narrowed := true }
def EdgeSharesUptoSaid : Prop := edgeSharesUptoRow.holds Try.pinned (OpenSpec.upto edgeSharesSpec)

/-- 'wainscotlaw26.EdgeSums', WHERE WHAT IT READS IS OF BULK AT MOST 1048576: true; the input reads as it did. -/
def edgeSumsUptoRow : OpenClaim := { program := "ytgkidgpdgcdgnaa", sum := "8ee20a96096e55477dabe7350d5b3dafe530fec0b1850098c1b74511f7a0c110", func := "wainscot/wainscotlaw26.EdgeSums", spec := "edgeSums", unfollowed := true, recurses := true, apart := false, narrowed := true }
def EdgeSumsUptoSaid : Prop := edgeSumsUptoRow.holds Try.pinned (OpenSpec.upto edgeSumsSpec)

/-- 'wainscotlaw26.EdgeFan', WHERE WHAT IT READS IS OF BULK AT MOST 1048576: true; the input reads as it did. -/
def edgeFanUptoRow : OpenClaim := { program := "ytgkidgpdgcdgnaa", sum := "8ee20a96096e55477dabe7350d5b3dafe530fec0b1850098c1b74511f7a0c110", func := "wainscot/wainscotlaw26.EdgeFan", spec := "edgeFan", unfollowed := true, recurses := true, apart := false, narrowed := true }
def EdgeFanUptoSaid : Prop := edgeFanUptoRow.holds Try.pinned (OpenSpec.upto edgeFanSpec)

/-- 'wainscotlaw26.EdgeMoves', WHERE WHAT IT READS IS OF BULK AT MOST 1048576: true; the input reads as it did. -/
def edgeMovesUptoRow : OpenClaim := { program := "ytgkidgpdgcdgnaa", sum := "8ee20a96096e55477dabe7350d5b3dafe530fec0b1850098c1b74511f7a0c110", func := "wainscot/wainscotlaw26.EdgeMoves", spec := "edgeMoves", unfollowed := true, recurses := true, apart := false, narrowed := true }
def EdgeMovesUptoSaid : Prop := edgeMovesUptoRow.holds Try.pinned (OpenSpec.upto edgeMovesSpec)

end Rows
end Go.Proofs.Ytgkidgpdgcdgnaa
