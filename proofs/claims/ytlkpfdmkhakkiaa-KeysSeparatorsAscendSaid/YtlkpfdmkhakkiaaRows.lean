/-
  No cell of these rows narrows 'for every input' (looked for: loops, veiled, ifaces, maps, wideKeys, modest, calm, conditions, laid).
  DERIVED. THE GIVEN ROWS OF THIS SEAT. 5 by the template 'for every input the law returns true; each argument reads behind the call as it read before'; 0 by the template 'total and deterministic' (their statements: YtlkpfdmkhakkiaaTotals.lean).
  GIVEN WITH THE SEED: the statements are not yours to turn. If you find one false, say at which input.
  Laid BY PROGRAM, IN A SANDBOX (cutbox-rows.mjs): the forced cells as the released guide's own fill.sh prints them over the translation 3422cb518b1e67f0… (all of the seat's roots in one cut). By AI agents, Wed Nov 11 2026. No macro, syntax, notation, axiom, sorry.
-/
import Derived.Test.YtlkpfdmkhakkiaaChecked
import GoSem.Claim
import GoSem.ClaimJoined
import GoSem.ClaimMapViews
import Derived.JoinedTies
import Derived.KernelRfl
namespace Go.Proofs.Ytlkpfdmkhakkiaa
/- THE CELL 'sum', in the pinned program and in every row, IS THE sha256 OF THE DUMP (.gsa) THAT YtlkpfdmkhakkiaaProg.lean LOADS. Nothing in Lean hashes anything: it is a label: what it is worth is what the hold of that sum in a sandbox is worth. -/
noncomputable def Try.pinned : Pinned := { name := "ytlkpfdmkhakkiaa", sum := "3422cb518b1e67f0a71b9350cf319000f0e274a4b3c39818acc0af8620ca9d01", checked := Try.checked }
namespace Rows
def none {H : Type} : Left H := { results := [], args := [] }

/-- 'blinktreelaw1.KeysSeparate': WHATEVER THE INPUT: true; the input reads as it did. -/
def keysSeparateSpec : ChangeSpec := { name := "keysSeparate", fn := fun _ => fun
  | [d1, d2] => { results := [.lit (.bool true)], args := [d1, d2] }
  | _ => none }
def keysSeparateRow : OpenClaim := { program := "ytlkpfdmkhakkiaa", sum := "3422cb518b1e67f0a71b9350cf319000f0e274a4b3c39818acc0af8620ca9d01", func := "blinktree/blinktreelaw1.KeysSeparate", spec := "keysSeparate", apart := false }
def KeysSeparateSaid : Prop := keysSeparateRow.holds Try.pinned (OpenSpec.ofChange keysSeparateSpec)

/-- ITS FALSE NEIGHBOUR: 'it returns false'. Refute it at one input. -/
def keysSeparateWrong : ChangeSpec := { name := "keysSeparate", fn := fun _ => fun
  | [d1, d2] => { results := [.lit (.bool false)], args := [d1, d2] }
  | _ => none }
def KeysSeparateWrongFalsely : Prop := keysSeparateRow.holds Try.pinned (OpenSpec.ofChange keysSeparateWrong)

/-- 'blinktreelaw1.KeysSeparatorsAscend': WHATEVER THE INPUT: true; the input reads as it did. -/
def keysSeparatorsAscendSpec : ChangeSpec := { name := "keysSeparatorsAscend", fn := fun _ => fun
  | [d] => { results := [.lit (.bool true)], args := [d] }
  | _ => none }
def keysSeparatorsAscendRow : OpenClaim := { program := "ytlkpfdmkhakkiaa", sum := "3422cb518b1e67f0a71b9350cf319000f0e274a4b3c39818acc0af8620ca9d01", func := "blinktree/blinktreelaw1.KeysSeparatorsAscend", spec := "keysSeparatorsAscend", apart := false }
def KeysSeparatorsAscendSaid : Prop := keysSeparatorsAscendRow.holds Try.pinned (OpenSpec.ofChange keysSeparatorsAscendSpec)

/-- ITS FALSE NEIGHBOUR: 'it returns false'. Refute it at one input. -/
def keysSeparatorsAscendWrong : ChangeSpec := { name := "keysSeparatorsAscend", fn := fun _ => fun
  | [d] => { results := [.lit (.bool false)], args := [d] }
  | _ => none }
def KeysSeparatorsAscendWrongFalsely : Prop := keysSeparatorsAscendRow.holds Try.pinned (OpenSpec.ofChange keysSeparatorsAscendWrong)

/-- 'blinktreelaw1.KeysSuccessorIsNext': WHATEVER THE INPUT: true; the input reads as it did. -/
def keysSuccessorIsNextSpec : ChangeSpec := { name := "keysSuccessorIsNext", fn := fun _ => fun
  | [d1, d2] => { results := [.lit (.bool true)], args := [d1, d2] }
  | _ => none }
def keysSuccessorIsNextRow : OpenClaim := { program := "ytlkpfdmkhakkiaa", sum := "3422cb518b1e67f0a71b9350cf319000f0e274a4b3c39818acc0af8620ca9d01", func := "blinktree/blinktreelaw1.KeysSuccessorIsNext", spec := "keysSuccessorIsNext", apart := false }
def KeysSuccessorIsNextSaid : Prop := keysSuccessorIsNextRow.holds Try.pinned (OpenSpec.ofChange keysSuccessorIsNextSpec)

/-- ITS FALSE NEIGHBOUR: 'it returns false'. Refute it at one input. -/
def keysSuccessorIsNextWrong : ChangeSpec := { name := "keysSuccessorIsNext", fn := fun _ => fun
  | [d1, d2] => { results := [.lit (.bool false)], args := [d1, d2] }
  | _ => none }
def KeysSuccessorIsNextWrongFalsely : Prop := keysSuccessorIsNextRow.holds Try.pinned (OpenSpec.ofChange keysSuccessorIsNextWrong)

/-- 'blinktreelaw1.KeysOrder': WHATEVER THE INPUT: true; the input reads as it did. -/
def keysOrderSpec : ChangeSpec := { name := "keysOrder", fn := fun _ => fun
  | [d1, d2, d3, d4, d5] => { results := [.lit (.bool true)], args := [d1, d2, d3, d4, d5] }
  | _ => none }
def keysOrderRow : OpenClaim := { program := "ytlkpfdmkhakkiaa", sum := "3422cb518b1e67f0a71b9350cf319000f0e274a4b3c39818acc0af8620ca9d01", func := "blinktree/blinktreelaw1.KeysOrder", spec := "keysOrder", apart := false }
def KeysOrderSaid : Prop := keysOrderRow.holds Try.pinned (OpenSpec.ofChange keysOrderSpec)

/-- ITS FALSE NEIGHBOUR: 'it returns false'. Refute it at one input. -/
def keysOrderWrong : ChangeSpec := { name := "keysOrder", fn := fun _ => fun
  | [d1, d2, d3, d4, d5] => { results := [.lit (.bool false)], args := [d1, d2, d3, d4, d5] }
  | _ => none }
def KeysOrderWrongFalsely : Prop := keysOrderRow.holds Try.pinned (OpenSpec.ofChange keysOrderWrong)

/-- 'blinktreelaw1.KeysAgree': WHATEVER THE INPUT: true; the input reads as it did. -/
def keysAgreeSpec : ChangeSpec := { name := "keysAgree", fn := fun _ => fun
  | [d1, d2, d3, d4] => { results := [.lit (.bool true)], args := [d1, d2, d3, d4] }
  | _ => none }
def keysAgreeRow : OpenClaim := { program := "ytlkpfdmkhakkiaa", sum := "3422cb518b1e67f0a71b9350cf319000f0e274a4b3c39818acc0af8620ca9d01", func := "blinktree/blinktreelaw1.KeysAgree", spec := "keysAgree", apart := false }
def KeysAgreeSaid : Prop := keysAgreeRow.holds Try.pinned (OpenSpec.ofChange keysAgreeSpec)

/-- ITS FALSE NEIGHBOUR: 'it returns false'. Refute it at one input. -/
def keysAgreeWrong : ChangeSpec := { name := "keysAgree", fn := fun _ => fun
  | [d1, d2, d3, d4] => { results := [.lit (.bool false)], args := [d1, d2, d3, d4] }
  | _ => none }
def KeysAgreeWrongFalsely : Prop := keysAgreeRow.holds Try.pinned (OpenSpec.ofChange keysAgreeWrong)

/- THE SECOND FORM. 'bulk': how many values and letters a reading holds, each counted each time it is reached (what is shared counts as often as it is met; a slice's spare places count too). A statement '..UptoSaid' is the law's where the arguments, and the package variables that the reading takes, are together of bulk at most 1048576: NARROWER than '..Said'. Prove '..Said' where nothing that the law and all that it calls make is longer than what came in: it says more and counts as full. Else prove '..UptoSaid'. A law counts once. -/
mutual
def uptoBulk {H : Type} : DataW H → Nat
  | .lit (.string bytes) => bytes.length + 1
  | .lit _ => 1
  | .nil => 1
  | .ptr d => uptoBulk d + 1
  | .slice elems spare => uptoBulkAll elems + uptoBulkAll spare + 1
  | .agg parts => uptoBulkAll parts + 1
  | .iface _ d => uptoBulk d + 1
  | .map entries => uptoBulkEntries entries + 1
  | .held _ => 1
def uptoBulkAll {H : Type} : List (DataW H) → Nat
  | [] => 0
  | d :: r => uptoBulk d + uptoBulkAll r
def uptoBulkEntries {H : Type} : List (Lit × DataW H) → Nat
  | [] => 0
  | x :: r => uptoBulkEntry x + uptoBulkEntries r
def uptoBulkEntry {H : Type} : Lit × DataW H → Nat
  | (.string bytes, d) => bytes.length + uptoBulk d + 1
  | (_, d) => uptoBulk d + 1
 end
def uptoSmall : (H : Type) → List (DataW H) → Bool := fun _ ds => decide (uptoBulkAll ds ≤ 1048576)
def OpenSpec.upto (s : _root_.Go.ChangeSpec) : _root_.Go.OpenSpec := { _root_.Go.OpenSpec.ofChange s with cond := some uptoSmall }

/-- 'blinktreelaw1.KeysSeparate', WHERE WHAT IT READS IS OF BULK AT MOST 1048576: true; the input reads as it did. -/
def keysSeparateUptoRow : OpenClaim := { program := "ytlkpfdmkhakkiaa", sum := "3422cb518b1e67f0a71b9350cf319000f0e274a4b3c39818acc0af8620ca9d01", func := "blinktree/blinktreelaw1.KeysSeparate", spec := "keysSeparate", apart := false, narrowed := true }
def KeysSeparateUptoSaid : Prop := keysSeparateUptoRow.holds Try.pinned (OpenSpec.upto keysSeparateSpec)

/-- 'blinktreelaw1.KeysSeparatorsAscend', WHERE WHAT IT READS IS OF BULK AT MOST 1048576: true; the input reads as it did. -/
def keysSeparatorsAscendUptoRow : OpenClaim := { program := "ytlkpfdmkhakkiaa", sum := "3422cb518b1e67f0a71b9350cf319000f0e274a4b3c39818acc0af8620ca9d01", func := "blinktree/blinktreelaw1.KeysSeparatorsAscend", spec := "keysSeparatorsAscend", apart := false, narrowed := true }
def KeysSeparatorsAscendUptoSaid : Prop := keysSeparatorsAscendUptoRow.holds Try.pinned (OpenSpec.upto keysSeparatorsAscendSpec)

/-- 'blinktreelaw1.KeysSuccessorIsNext', WHERE WHAT IT READS IS OF BULK AT MOST 1048576: true; the input reads as it did. -/
def keysSuccessorIsNextUptoRow : OpenClaim := { program := "ytlkpfdmkhakkiaa", sum := "3422cb518b1e67f0a71b9350cf319000f0e274a4b3c39818acc0af8620ca9d01", func := "blinktree/blinktreelaw1.KeysSuccessorIsNext", spec := "keysSuccessorIsNext", apart := false, narrowed := true }
def KeysSuccessorIsNextUptoSaid : Prop := keysSuccessorIsNextUptoRow.holds Try.pinned (OpenSpec.upto keysSuccessorIsNextSpec)

/-- 'blinktreelaw1.KeysOrder', WHERE WHAT IT READS IS OF BULK AT MOST 1048576: true; the input reads as it did. -/
def keysOrderUptoRow : OpenClaim := { program := "ytlkpfdmkhakkiaa", sum := "3422cb518b1e67f0a71b9350cf319000f0e274a4b3c39818acc0af8620ca9d01", func := "blinktree/blinktreelaw1.KeysOrder", spec := "keysOrder", apart := false, narrowed := true }
def KeysOrderUptoSaid : Prop := keysOrderUptoRow.holds Try.pinned (OpenSpec.upto keysOrderSpec)

/-- 'blinktreelaw1.KeysAgree', WHERE WHAT IT READS IS OF BULK AT MOST 1048576: true; the input reads as it did. -/
def keysAgreeUptoRow : OpenClaim := { program := "ytlkpfdmkhakkiaa", sum := "3422cb518b1e67f0a71b9350cf319000f0e274a4b3c39818acc0af8620ca9d01", func := "blinktree/blinktreelaw1.KeysAgree", spec := "keysAgree", apart := false, narrowed := true }
def KeysAgreeUptoSaid : Prop := keysAgreeUptoRow.holds Try.pinned (OpenSpec.upto keysAgreeSpec)

end Rows
end Go.Proofs.Ytlkpfdmkhakkiaa
