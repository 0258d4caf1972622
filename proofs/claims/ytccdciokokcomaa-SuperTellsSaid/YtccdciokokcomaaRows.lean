/-
  No cell of these rows narrows 'for every input' (looked for: loops, veiled, ifaces, maps, wideKeys, modest, calm, conditions, laid).
  DERIVED. THE GIVEN ROWS OF THIS SEAT. 3 by the template 'for every input the law returns true; each argument reads behind the call as it read before'; 0 by the template 'total and deterministic' (their statements: YtccdciokokcomaaTotals.lean).
  GIVEN WITH THE SEED: the statements are not yours to turn. If you find one false, say at which input.
  Laid BY PROGRAM, IN A SANDBOX (cutbox-rows.mjs): the forced cells as the released guide's own fill.sh prints them over the translation f99748ce767e5c76… (all of the seat's roots in one cut). By AI agents, Wed Nov 11 2026. No macro, syntax, notation, axiom, sorry.
-/
import Derived.Test.YtccdciokokcomaaChecked
import GoSem.Claim
import GoSem.ClaimJoined
import GoSem.ClaimMapViews
import Derived.JoinedTies
import Derived.KernelRfl
namespace Go.Proofs.Ytccdciokokcomaa
/- THE CELL 'sum', in the pinned program and in every row, IS THE sha256 OF THE DUMP (.gsa) THAT YtccdciokokcomaaProg.lean LOADS. Nothing in Lean hashes anything: it is a label: what it is worth is what the hold of that sum in a sandbox is worth. -/
noncomputable def Try.pinned : Pinned := { name := "ytccdciokokcomaa", sum := "f99748ce767e5c763212fc04b23f0194a85a1aeb90f0f88344b7b7771e19aa32", checked := Try.checked }
namespace Rows
def none {H : Type} : Left H := { results := [], args := [] }

/-- 'wainscotlaw10.SuperTells': WHATEVER THE INPUT: true; the input reads as it did. -/
def superTellsSpec : ChangeSpec := { name := "superTells", fn := fun _ => fun
  | [d1, d2, d3, d4, d5, d6] => { results := [.lit (.bool true)], args := [d1, d2, d3, d4, d5, d6] }
  | _ => none }
def superTellsRow : OpenClaim := { program := "ytccdciokokcomaa", sum := "f99748ce767e5c763212fc04b23f0194a85a1aeb90f0f88344b7b7771e19aa32", func := "wainscot/wainscotlaw10.SuperTells", spec := "superTells", apart := false }
def SuperTellsSaid : Prop := superTellsRow.holds Try.pinned (OpenSpec.ofChange superTellsSpec)

/-- ITS FALSE NEIGHBOUR: 'it returns false'. Refute it at one input. -/
def superTellsWrong : ChangeSpec := { name := "superTells", fn := fun _ => fun
  | [d1, d2, d3, d4, d5, d6] => { results := [.lit (.bool false)], args := [d1, d2, d3, d4, d5, d6] }
  | _ => none }
def SuperTellsWrongFalsely : Prop := superTellsRow.holds Try.pinned (OpenSpec.ofChange superTellsWrong)

/-- 'wainscotlaw10.SuperBack': WHATEVER THE INPUT: true; the input reads as it did. -/
def superBackSpec : ChangeSpec := { name := "superBack", fn := fun _ => fun
  | [d1, d2] => { results := [.lit (.bool true)], args := [d1, d2] }
  | _ => none }
def superBackRow : OpenClaim := { program := "ytccdciokokcomaa", sum := "f99748ce767e5c763212fc04b23f0194a85a1aeb90f0f88344b7b7771e19aa32", func := "wainscot/wainscotlaw10.SuperBack", spec := "superBack", apart := false }
def SuperBackSaid : Prop := superBackRow.holds Try.pinned (OpenSpec.ofChange superBackSpec)

/-- ITS FALSE NEIGHBOUR: 'it returns false'. Refute it at one input. -/
def superBackWrong : ChangeSpec := { name := "superBack", fn := fun _ => fun
  | [d1, d2] => { results := [.lit (.bool false)], args := [d1, d2] }
  | _ => none }
def SuperBackWrongFalsely : Prop := superBackRow.holds Try.pinned (OpenSpec.ofChange superBackWrong)

/-- 'wainscotlaw10.SuperNewer': WHATEVER THE INPUT: true; the input reads as it did. -/
def superNewerSpec : ChangeSpec := { name := "superNewer", fn := fun _ => fun
  | [d1, d2, d3, d4] => { results := [.lit (.bool true)], args := [d1, d2, d3, d4] }
  | _ => none }
def superNewerRow : OpenClaim := { program := "ytccdciokokcomaa", sum := "f99748ce767e5c763212fc04b23f0194a85a1aeb90f0f88344b7b7771e19aa32", func := "wainscot/wainscotlaw10.SuperNewer", spec := "superNewer", apart := false }
def SuperNewerSaid : Prop := superNewerRow.holds Try.pinned (OpenSpec.ofChange superNewerSpec)

/-- ITS FALSE NEIGHBOUR: 'it returns false'. Refute it at one input. -/
def superNewerWrong : ChangeSpec := { name := "superNewer", fn := fun _ => fun
  | [d1, d2, d3, d4] => { results := [.lit (.bool false)], args := [d1, d2, d3, d4] }
  | _ => none }
def SuperNewerWrongFalsely : Prop := superNewerRow.holds Try.pinned (OpenSpec.ofChange superNewerWrong)

/- THE SECOND FORM. 'bulk': how many values and letters a reading holds, each counted each time it is reached (what is shared counts as often as it is met; a slice's spare places count too). A statement '..UptoSaid' is the law's where the arguments, and the package variables that the reading takes, are together of bulk at most 1048576: NARROWER than '..Said'. Prove '..Said' where nothing that the law and all that it calls make is longer than what came in: it says more and counts as full. Else prove '..UptoSaid'. A law counts once. -/
mutual
def uptoBulk {H : Type} : DataW H → Nat
  | .lit (.string bytes) => bytes.length + 1
  | .lit _ => 1
  | .nil => 1
  | .ptr d => uptoBulk d + 1
  | .slice elems spare => uptoBulkAll elems + uptoBulkAll spare + 1
  | .agg parts => uptoBulkAll parts + 1
  | .iface _ d => uptoBulk d + 1
  | .map entries => uptoBulkEntries entries + 1
  | .held _ => 1
def uptoBulkAll {H : Type} : List (DataW H) → Nat
  | [] => 0
  | d :: r => uptoBulk d + uptoBulkAll r
def uptoBulkEntries {H : Type} : List (Lit × DataW H) → Nat
  | [] => 0
  | x :: r => uptoBulkEntry x + uptoBulkEntries r
def uptoBulkEntry {H : Type} : Lit × DataW H → Nat
  | (.string bytes, d) => bytes.length + uptoBulk d + 1
  | (_, d) => uptoBulk d + 1
 end
def uptoSmall : (H : Type) → List (DataW H) → Bool := fun _ ds => decide (uptoBulkAll ds ≤ 1048576)
def OpenSpec.upto (s : _root_.Go.ChangeSpec) : _root_.Go.OpenSpec := { _root_.Go.OpenSpec.ofChange s with cond := some uptoSmall }

/-- 'wainscotlaw10.SuperTells', WHERE WHAT IT READS IS OF BULK AT MOST 1048576: true; the input reads as it did. -/
def superTellsUptoRow : OpenClaim := { program := "ytccdciokokcomaa", sum := "f99748ce767e5c763212fc04b23f0194a85a1aeb90f0f88344b7b7771e19aa32", func := "wainscot/wainscotlaw10.SuperTells", spec := "superTells", apart := false, narrowed := true }
def SuperTellsUptoSaid : Prop := superTellsUptoRow.holds Try.pinned (OpenSpec.upto superTellsSpec)

/-- 'wainscotlaw10.SuperBack', WHERE WHAT IT READS IS OF BULK AT MOST 1048576: true; the input reads as it did. -/
def superBackUptoRow : OpenClaim := { program := "ytccdciokokcomaa", sum := "f99748ce767e5c763212fc04b23f0194a85a1aeb90f0f88344b7b7771e19aa32", func := "wainscot/wainscotlaw10.SuperBack", spec := "superBack", apart := false, narrowed := true }
def SuperBackUptoSaid : Prop := superBackUptoRow.holds Try.pinned (OpenSpec.upto superBackSpec)

/-- 'wainscotlaw10.SuperNewer', WHERE WHAT IT READS IS OF BULK AT MOST 1048576: true; the input reads as it did. -/
def superNewerUptoRow : OpenClaim := { program := "ytccdciokokcomaa", sum := "f99748ce767e5c763212fc04b23f0194a85a1aeb90f0f88344b7b7771e19aa32", func := "wainscot/wainscotlaw10.SuperNewer", spec := "superNewer", apart := false, narrowed := true }
def SuperNewerUptoSaid : Prop := superNewerUptoRow.holds Try.pinned (OpenSpec.upto superNewerSpec)

end Rows
end Go.Proofs.Ytccdciokokcomaa
