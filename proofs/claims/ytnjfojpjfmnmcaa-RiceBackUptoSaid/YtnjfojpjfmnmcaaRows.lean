/-
  No cell of these rows narrows 'for every input' (looked for: loops, veiled, ifaces, maps, wideKeys, modest, calm, conditions, laid).
  DERIVED. THE GIVEN ROWS OF THIS SEAT. 5 by the template 'for every input the law returns true; each argument reads behind the call as it read before'; 0 by the template 'total and deterministic' (their statements: YtnjfojpjfmnmcaaTotals.lean).
  GIVEN WITH THE SEED: the statements are not yours to turn. If you find one false, say at which input.
  Laid BY PROGRAM, IN A SANDBOX (cutbox-rows.mjs): the forced cells as the released guide's own fill.sh prints them over the translation 0281e3a140faefd0… (all of the seat's roots in one cut). By AI agents, Wed Nov 11 2026. No macro, syntax, notation, axiom, sorry.
-/
import Derived.Test.YtnjfojpjfmnmcaaChecked
import GoSem.Claim
import GoSem.ClaimJoined
import GoSem.ClaimMapViews
import Derived.JoinedTies
import Derived.KernelRfl
namespace Go.Proofs.Ytnjfojpjfmnmcaa
/- THE CELL 'sum', in the pinned program and in every row, IS THE sha256 OF THE DUMP (.gsa) THAT YtnjfojpjfmnmcaaProg.lean LOADS. Nothing in Lean hashes anything: it is a label: what it is worth is what the hold of that sum in a sandbox is worth. -/
noncomputable def Try.pinned : Pinned := { name := "ytnjfojpjfmnmcaa", sum := "0281e3a140faefd0ff1a4e4e8593ee04773935f4bffd9e023250101792a379aa", checked := Try.checked }
namespace Rows
def none {H : Type} : Left H := { results := [], args := [] }

/-- 'damasklaw25.RicePuts': WHATEVER THE INPUT: true; the input reads as it did. -/
def ricePutsSpec : ChangeSpec := { name := "ricePuts", fn := fun _ => fun
  | [d] => { results := [.lit (.bool true)], args := [d] }
  | _ => none }
def ricePutsRow : OpenClaim := { program := "ytnjfojpjfmnmcaa", sum := "0281e3a140faefd0ff1a4e4e8593ee04773935f4bffd9e023250101792a379aa", func := "damask/damasklaw25.RicePuts", spec := "ricePuts", apart := false }
def RicePutsSaid : Prop := ricePutsRow.holds Try.pinned (OpenSpec.ofChange ricePutsSpec)

/-- ITS FALSE NEIGHBOUR: 'it returns false'. Refute it at one input. -/
def ricePutsWrong : ChangeSpec := { name := "ricePuts", fn := fun _ => fun
  | [d] => { results := [.lit (.bool false)], args := [d] }
  | _ => none }
def RicePutsWrongFalsely : Prop := ricePutsRow.holds Try.pinned (OpenSpec.ofChange ricePutsWrong)

/-- 'damasklaw25.RiceStates': WHATEVER THE INPUT: true; the input reads as it did. -/
def riceStatesSpec : ChangeSpec := { name := "riceStates", fn := fun _ => fun
  | [d1, d2, d3] => { results := [.lit (.bool true)], args := [d1, d2, d3] }
  | _ => none }
def riceStatesRow : OpenClaim := { program := "ytnjfojpjfmnmcaa", sum := "0281e3a140faefd0ff1a4e4e8593ee04773935f4bffd9e023250101792a379aa", func := "damask/damasklaw25.RiceStates", spec := "riceStates", apart := false }
def RiceStatesSaid : Prop := riceStatesRow.holds Try.pinned (OpenSpec.ofChange riceStatesSpec)

/-- ITS FALSE NEIGHBOUR: 'it returns false'. Refute it at one input. -/
def riceStatesWrong : ChangeSpec := { name := "riceStates", fn := fun _ => fun
  | [d1, d2, d3] => { results := [.lit (.bool false)], args := [d1, d2, d3] }
  | _ => none }
def RiceStatesWrongFalsely : Prop := riceStatesRow.holds Try.pinned (OpenSpec.ofChange riceStatesWrong)

/-- 'damasklaw25.RiceTakes': WHATEVER THE INPUT: true; the input reads as it did. -/
def riceTakesSpec : ChangeSpec := { name := "riceTakes", fn := fun _ => fun
  | [d1, d2] => { results := [.lit (.bool true)], args := [d1, d2] }
  | _ => none }
def riceTakesRow : OpenClaim := { program := "ytnjfojpjfmnmcaa", sum := "0281e3a140faefd0ff1a4e4e8593ee04773935f4bffd9e023250101792a379aa", func := "damask/damasklaw25.RiceTakes", spec := "riceTakes", apart := false }
def RiceTakesSaid : Prop := riceTakesRow.holds Try.pinned (OpenSpec.ofChange riceTakesSpec)

/-- ITS FALSE NEIGHBOUR: 'it returns false'. Refute it at one input. -/
def riceTakesWrong : ChangeSpec := { name := "riceTakes", fn := fun _ => fun
  | [d1, d2] => { results := [.lit (.bool false)], args := [d1, d2] }
  | _ => none }
def RiceTakesWrongFalsely : Prop := riceTakesRow.holds Try.pinned (OpenSpec.ofChange riceTakesWrong)

/-- 'damasklaw25.RiceOne': WHATEVER THE INPUT: true; the input reads as it did. -/
def riceOneSpec : ChangeSpec := { name := "riceOne", fn := fun _ => fun
  | [d1, d2, d3] => { results := [.lit (.bool true)], args := [d1, d2, d3] }
  | _ => none }
def riceOneRow : OpenClaim := { program := "ytnjfojpjfmnmcaa", sum := "0281e3a140faefd0ff1a4e4e8593ee04773935f4bffd9e023250101792a379aa", func := "damask/damasklaw25.RiceOne", spec := "riceOne", apart := false }
def RiceOneSaid : Prop := riceOneRow.holds Try.pinned (OpenSpec.ofChange riceOneSpec)

/-- ITS FALSE NEIGHBOUR: 'it returns false'. Refute it at one input. -/
def riceOneWrong : ChangeSpec := { name := "riceOne", fn := fun _ => fun
  | [d1, d2, d3] => { results := [.lit (.bool false)], args := [d1, d2, d3] }
  | _ => none }
def RiceOneWrongFalsely : Prop := riceOneRow.holds Try.pinned (OpenSpec.ofChange riceOneWrong)

/-- 'damasklaw25.RiceBack': WHATEVER THE INPUT: true; the input reads as it did. -/
def riceBackSpec : ChangeSpec := { name := "riceBack", fn := fun _ => fun
  | [d1, d2] => { results := [.lit (.bool true)], args := [d1, d2] }
  | _ => none }
def riceBackRow : OpenClaim := { program := "ytnjfojpjfmnmcaa", sum := "0281e3a140faefd0ff1a4e4e8593ee04773935f4bffd9e023250101792a379aa", func := "damask/damasklaw25.RiceBack", spec := "riceBack", apart := false }
def RiceBackSaid : Prop := riceBackRow.holds Try.pinned (OpenSpec.ofChange riceBackSpec)

/-- ITS FALSE NEIGHBOUR: 'it returns false'. Refute it at one input. -/
def riceBackWrong : ChangeSpec := { name := "riceBack", fn := fun _ => fun
  | [d1, d2] => { results := [.lit (.bool false)], args := [d1, d2] }
  | _ => none }
def RiceBackWrongFalsely : Prop := riceBackRow.holds Try.pinned (OpenSpec.ofChange riceBackWrong)

/- THE SECOND FORM. 'bulk': how many values and letters a reading holds, each counted each time it is reached (what is shared counts as often as it is met; a slice's spare places count too). A statement '..UptoSaid' is the law's where the arguments, and the package variables that the reading takes, are together of bulk at most 1048576: NARROWER than '..Said'. Prove '..Said' where nothing that the law and all that it calls make is longer than what came in: it says more and counts as full. Else prove '..UptoSaid'. A law counts once. -/
mutual
def uptoBulk {H : Type} : DataW H → Nat
  | .lit (.string bytes) => bytes.length + 1
  | .lit _ => 1
  | .nil => 1
  | .ptr d => uptoBulk d + 1
  | .slice elems spare => uptoBulkAll elems + uptoBulkAll spare + 1
  | .agg parts => uptoBulkAll parts + 1
  | .iface _ d => uptoBulk d + 1
  | .map entries => uptoBulkEntries entries + 1
  | .held _ => 1
def uptoBulkAll {H : Type} : List (DataW H) → Nat
  | [] => 0
  | d :: r => uptoBulk d + uptoBulkAll r
def uptoBulkEntries {H : Type} : List (Lit × DataW H) → Nat
  | [] => 0
  | x :: r => uptoBulkEntry x + uptoBulkEntries r
def uptoBulkEntry {H : Type} : Lit × DataW H → Nat
  | (.string bytes, d) => bytes.length + uptoBulk d + 1
  | (_, d) => uptoBulk d + 1
 end
def uptoSmall : (H : Type) → List (DataW H) → Bool := fun _ ds => decide (uptoBulkAll ds ≤ 1048576)
def OpenSpec.upto (s : _root_.Go.ChangeSpec) : _root_.Go.OpenSpec := { _root_.Go.OpenSpec.ofChange s with cond := some uptoSmall }

/-- 'damasklaw25.RicePuts', WHERE WHAT IT READS IS OF BULK AT MOST 1048576: true; the input reads as it did. -/
def ricePutsUptoRow : OpenClaim := { program := "ytnjfojpjfmnmcaa", sum := "0281e3a140faefd0ff1a4e4e8593ee04773935f4bffd9e023250101792a379aa", func := "damask/damasklaw25.RicePuts", spec := "ricePuts", apart := false, narrowed := true }
def RicePutsUptoSaid : Prop := ricePutsUptoRow.holds Try.pinned (OpenSpec.upto ricePutsSpec)

/-- 'damasklaw25.RiceStates', WHERE WHAT IT READS IS OF BULK AT MOST 1048576: true; the input reads as it did. -/
def riceStatesUptoRow : OpenClaim := { program := "ytnjfojpjfmnmcaa", sum := "0281e3a140faefd0ff1a4e4e8593ee04773935f4bffd9e023250101792a379aa", func := "damask/damasklaw25.RiceStates", spec := "riceStates", apart := false, narrowed := true }
def RiceStatesUptoSaid : Prop := riceStatesUptoRow.holds Try.pinned (OpenSpec.upto riceStatesSpec)

/-- 'damasklaw25.RiceTakes', WHERE WHAT IT READS IS OF BULK AT MOST 1048576: true; the input reads as it did. -/
def riceTakesUptoRow : OpenClaim := { program := "ytnjfojpjfmnmcaa", sum := "0281e3a140faefd0ff1a4e4e8593ee04773935f4bffd9e023250101792a379aa", func := "damask/damasklaw25.RiceTakes", spec := "riceTakes", apart := false, narrowed := true }
def RiceTakesUptoSaid : Prop := riceTakesUptoRow.holds Try.pinned (OpenSpec.upto riceTakesSpec)

/-- 'damasklaw25.RiceOne', WHERE WHAT IT READS IS OF BULK AT MOST 1048576: true; the input reads as it did. -/
def riceOneUptoRow : OpenClaim := { program := "ytnjfojpjfmnmcaa", sum := "0281e3a140faefd0ff1a4e4e8593ee04773935f4bffd9e023250101792a379aa", func := "damask/damasklaw25.RiceOne", spec := "riceOne", apart := false, narrowed := true }
def RiceOneUptoSaid : Prop := riceOneUptoRow.holds Try.pinned (OpenSpec.upto riceOneSpec)

/-- 'damasklaw25.RiceBack', WHERE WHAT IT READS IS OF BULK AT MOST 1048576: true; the input reads as it did. -/
def riceBackUptoRow : OpenClaim := { program := "ytnjfojpjfmnmcaa", sum := "0281e3a140faefd0ff1a4e4e8593ee04773935f4bffd9e023250101792a379aa", func := "damask/damasklaw25.RiceBack", spec := "riceBack", apart := false, narrowed := true }
def RiceBackUptoSaid : Prop := riceBackUptoRow.holds Try.pinned (OpenSpec.upto riceBackSpec)

end Rows
end Go.Proofs.Ytnjfojpjfmnmcaa
