/-
  No cell of these rows narrows 'for every input' (looked for: loops, veiled, ifaces, maps, wideKeys, modest, calm, conditions, laid).
  DERIVED. THE GIVEN ROWS OF THIS SEAT. 4 by the template 'for every input the law returns true; each argument reads behind the call as it read before'; 0 by the template 'total and deterministic' (their statements: YtnedpmibmldbfaaTotals.lean).
  GIVEN WITH THE SEED: the statements are not yours to turn. If you find one false, say at which input.
  Laid BY PROGRAM, IN A SANDBOX (cutbox-rows.mjs): the forced cells as the released guide's own fill.sh prints them over the translation 9f7098627a2dc60e… (all of the seat's roots in one cut). By AI agents, Wed Nov 11 2026. No macro, syntax, notation, axiom, sorry.
-/
import Derived.Test.YtnedpmibmldbfaaChecked
import GoSem.Claim
import GoSem.ClaimJoined
import GoSem.ClaimMapViews
import Derived.JoinedTies
import Derived.KernelRfl
namespace Go.Proofs.Ytnedpmibmldbfaa
/- THE CELL 'sum', in the pinned program and in every row, IS THE sha256 OF THE DUMP (.gsa) THAT YtnedpmibmldbfaaProg.lean LOADS. Nothing in Lean hashes anything: it is a label: what it is worth is what the hold of that sum in a sandbox is worth. -/
noncomputable def Try.pinned : Pinned := { name := "ytnedpmibmldbfaa", sum := "9f7098627a2dc60e746b552afc2d161b130872943e22bd60f75da1e78b3aa32b", checked := Try.checked }
namespace Rows
def none {H : Type} : Left H := { results := [], args := [] }

/-- 'wainscotlaw17.LruActs': WHATEVER THE INPUT: true; the input reads as it did. -/
def lruActsSpec : ChangeSpec := { name := "lruActs", fn := fun _ => fun
  | [d1, d2] => { results := [.lit (.bool true)], args := [d1, d2] }
  | _ => none }
def lruActsRow : OpenClaim := { program := "ytnedpmibmldbfaa", sum := "9f7098627a2dc60e746b552afc2d161b130872943e22bd60f75da1e78b3aa32b", func := "wainscot/wainscotlaw17.LruActs", spec := "lruActs", unfollowed := true, recurses := true, apart := false }
def LruActsSaid : Prop := lruActsRow.holds Try.pinned (OpenSpec.ofChange lruActsSpec)

/-- ITS FALSE NEIGHBOUR: 'it returns false'. Refute it at one input. -/
def lruActsWrong : ChangeSpec := { name := "lruActs", fn := fun _ => fun
  | [d1, d2] => { results := [.lit (.bool false)], args := [d1, d2] }
  | _ => none }
def LruActsWrongFalsely : Prop := lruActsRow.holds Try.pinned (OpenSpec.ofChange lruActsWrong)

/-- 'wainscotlaw17.LruLast': WHATEVER THE INPUT: true; the input reads as it did. -/
def lruLastSpec : ChangeSpec := { name := "lruLast", fn := fun _ => fun
  | [d1, d2] => { results := [.lit (.bool true)], args := [d1, d2] }
  | _ => none }
def lruLastRow : OpenClaim := { program := "ytnedpmibmldbfaa", sum := "9f7098627a2dc60e746b552afc2d161b130872943e22bd60f75da1e78b3aa32b", func := "wainscot/wainscotlaw17.LruLast", spec := "lruLast", unfollowed := true, recurses := true, apart := false }
def LruLastSaid : Prop := lruLastRow.holds Try.pinned (OpenSpec.ofChange lruLastSpec)

/-- ITS FALSE NEIGHBOUR: 'it returns false'. Refute it at one input. -/
def lruLastWrong : ChangeSpec := { name := "lruLast", fn := fun _ => fun
  | [d1, d2] => { results := [.lit (.bool false)], args := [d1, d2] }
  | _ => none }
def LruLastWrongFalsely : Prop := lruLastRow.holds Try.pinned (OpenSpec.ofChange lruLastWrong)

/-- 'wainscotlaw17.LruPins': WHATEVER THE INPUT: true; the input reads as it did. -/
def lruPinsSpec : ChangeSpec := { name := "lruPins", fn := fun _ => fun
  | [d1, d2, d3] => { results := [.lit (.bool true)], args := [d1, d2, d3] }
  | _ => none }
def lruPinsRow : OpenClaim := { program := "ytnedpmibmldbfaa", sum := "9f7098627a2dc60e746b552afc2d161b130872943e22bd60f75da1e78b3aa32b", func := "wainscot/wainscotlaw17.LruPins", spec := "lruPins", unfollowed := true, recurses := true, apart := false }
def LruPinsSaid : Prop := lruPinsRow.holds Try.pinned (OpenSpec.ofChange lruPinsSpec)

/-- ITS FALSE NEIGHBOUR: 'it returns false'. Refute it at one input. -/
def lruPinsWrong : ChangeSpec := { name := "lruPins", fn := fun _ => fun
  | [d1, d2, d3] => { results := [.lit (.bool false)], args := [d1, d2, d3] }
  | _ => none }
def LruPinsWrongFalsely : Prop := lruPinsRow.holds Try.pinned (OpenSpec.ofChange lruPinsWrong)

/-- 'wainscotlaw17.LruTwice': WHATEVER THE INPUT: true; the input reads as it did. -/
def lruTwiceSpec : ChangeSpec := { name := "lruTwice", fn := fun _ => fun
  | [d1, d2] => { results := [.lit (.bool true)], args := [d1, d2] }
  | _ => none }
def lruTwiceRow : OpenClaim := { program := "ytnedpmibmldbfaa", sum := "9f7098627a2dc60e746b552afc2d161b130872943e22bd60f75da1e78b3aa32b", func := "wainscot/wainscotlaw17.LruTwice", spec := "lruTwice", unfollowed := true, recurses := true, apart := false }
def LruTwiceSaid : Prop := lruTwiceRow.holds Try.pinned (OpenSpec.ofChange lruTwiceSpec)

/-- ITS FALSE NEIGHBOUR: 'it returns false'. Refute it at one input. -/
def lruTwiceWrong : ChangeSpec := { name := "lruTwice", fn := fun _ => fun
  | [d1, d2] => { results := [.lit (.bool false)], args := [d1, d2] }
  | _ => none }
def LruTwiceWrongFalsely : Prop := lruTwiceRow.holds Try.pinned (OpenSpec.ofChange lruTwiceWrong)

/- THE SECOND FORM. 'bulk': how many values and letters a reading holds, each counted each time it is reached (what is shared counts as often as it is met; a slice's spare places count too). A statement '..UptoSaid' is the law's where the arguments, and the package variables that the reading takes, are together of bulk at most 1048576: NARROWER than '..Said'. Prove '..Said' where nothing that the law and all that it calls make is longer than what came in: it says more and counts as full. Else prove '..UptoSaid'. A law counts once. -/
mutual
def uptoBulk {H : Type} : DataW H → Nat
  | .lit (.string bytes) => bytes.length + 1
  | .lit _ => 1
  | .nil => 1
  | .ptr d => uptoBulk d + 1
  | .slice elems spare => uptoBulkAll elems + uptoBulkAll spare + 1
  | .agg parts => uptoBulkAll parts + 1
  | .iface _ d => uptoBulk d + 1
  | .map entries => uptoBulkEntries entries + 1
  | .held _ => 1
def uptoBulkAll {H : Type} : List (DataW H) → Nat
  | [] => 0
  | d :: r => uptoBulk d + uptoBulkAll r
def uptoBulkEntries {H : Type} : List (Lit × DataW H) → Nat
  | [] => 0
  | x :: r => uptoBulkEntry x + uptoBulkEntries r
def uptoBulkEntry {H : Type} : Lit × DataW H → Nat
  | (.string bytes, d) => bytes.length + uptoBulk d + 1
  | (_, d) => uptoBulk d + 1
 end
def uptoSmall : (H : Type) → List (DataW H) → Bool := fun _ ds => decide (uptoBulkAll ds ≤ 1048576)
def OpenSpec.upto (s : _root_.Go.ChangeSpec) : _root_.Go.OpenSpec := { _root_.Go.OpenSpec.ofChange s with cond := some uptoSmall }

/-- 'wainscotlaw17.LruActs', WHERE WHAT IT READS IS OF BULK AT MOST 1048576: true; the input reads as it did. -/
def lruActsUptoRow : OpenClaim := { program := "ytnedpmibmldbfaa", sum := "9f7098627a2dc60e746b552afc2d161b130872943e22bd60f75da1e78b3aa32b", func := "wainscot/wainscotlaw17.LruActs", spec := "lruActs", unfollowed := true, recurses := true, apart := false, narrowed := true }
def LruActsUptoSaid : Prop := lruActsUptoRow.holds Try.pinned (OpenSpec.upto lruActsSpec)

/-- 'wainscotlaw17.LruLast', WHERE WHAT IT READS IS OF BULK AT MOST 1048576: true; the input reads as it did. -/
def lruLastUptoRow : OpenClaim := { program := "ytnedpmibmldbfaa", sum := "9f7098627a2dc60e746b552afc2d161b130872943e22bd60f75da1e78b3aa32b", func := "wainscot/wainscotlaw17.LruLast", spec := "lruLast", unfollowed := true, recurses := true, apart := false, narrowed := true }
def LruLastUptoSaid : Prop := lruLastUptoRow.holds Try.pinned (OpenSpec.upto lruLastSpec)

/-- 'wainscotlaw17.LruPins', WHERE WHAT IT READS IS OF BULK AT MOST 1048576: true; the input reads as it did. -/
def lruPinsUptoRow : OpenClaim := { program := "ytnedpmibmldbfaa", sum := "9f7098627a2dc60e746b552afc2d161b130872943e22bd60f75da1e78b3aa32b", func := "wainscot/wainscotlaw17.LruPins", spec := "lruPins", unfollowed := true, recurses := true, apart := false, narrowed := true }
def LruPinsUptoSaid : Prop := lruPinsUptoRow.holds Try.pinned (OpenSpec.upto lruPinsSpec)

/-- 'wainscotlaw17.LruTwice', WHERE WHAT IT READS IS OF BULK AT MOST 1048576: true; the input reads as it did. -/
def lruTwiceUptoRow : OpenClaim := { program := "ytnedpmibmldbfaa", sum := "9f7098627a2dc60e746b552afc2d161b130872943e22bd60f75da1e78b3aa32b", func := "wainscot/wainscotlaw17.LruTwice", spec := "lruTwice", unfollowed := true, recurses := true, apart := false, narrowed := true }
def LruTwiceUptoSaid : Prop := lruTwiceUptoRow.holds Try.pinned (OpenSpec.upto lruTwiceSpec)

end Rows
end Go.Proofs.Ytnedpmibmldbfaa
