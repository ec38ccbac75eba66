/-
  No cell of these rows narrows 'for every input' (looked for: loops, veiled, ifaces, maps, wideKeys, modest, calm, conditions, laid).
  DERIVED. THE GIVEN ROWS OF THIS SEAT. 10 by the template 'for every input the law returns true; each argument reads behind the call as it read before'; 0 by the template 'total and deterministic' (their statements: YtkkkjjonjdkngaaTotals.lean).
  GIVEN WITH THE SEED: the statements are not yours to turn. If you find one false, say at which input.
  Laid BY PROGRAM, IN A SANDBOX (cutbox-rows.mjs): the forced cells as the released guide's own fill.sh prints them over the translation a558b3f0ca11b63c… (all of the seat's roots in one cut). By AI agents, Wed Nov 11 2026. No macro, syntax, notation, axiom, sorry.
-/
import Derived.Test.YtkkkjjonjdkngaaChecked
import GoSem.Claim
import GoSem.ClaimJoined
import GoSem.ClaimMapViews
import Derived.JoinedTies
import Derived.KernelRfl
namespace Go.Proofs.Ytkkkjjonjdkngaa
/- THE CELL 'sum', in the pinned program and in every row, IS THE sha256 OF THE DUMP (.gsa) THAT YtkkkjjonjdkngaaProg.lean LOADS. Nothing in Lean hashes anything: it is a label: what it is worth is what the hold of that sum in a sandbox is worth. -/
noncomputable def Try.pinned : Pinned := { name := "ytkkkjjonjdkngaa", sum := "a558b3f0ca11b63cd58fdf20e511a07882468e10118f4c09ed10e0e25f3de5e7", checked := Try.checked }
namespace Rows
def none {H : Type} : Left H := { results := [], args := [] }

/-- 'crossbarlaw16.FreshRight': WHATEVER THE INPUT: true; the input reads as it did. -/
def freshRightSpec : ChangeSpec := { name := "freshRight", fn := fun _ => fun
  | [d1, d2, d3] => { results := [.lit (.bool true)], args := [d1, d2, d3] }
  | _ => none }
def freshRightRow : OpenClaim := { program := "ytkkkjjonjdkngaa", sum := "a558b3f0ca11b63cd58fdf20e511a07882468e10118f4c09ed10e0e25f3de5e7", func := "crossbar/crossbarlaw16.FreshRight", spec := "freshRight", apart := false }
def FreshRightSaid : Prop := freshRightRow.holds Try.pinned (OpenSpec.ofChange freshRightSpec)

/-- ITS FALSE NEIGHBOUR: 'it returns false'. Refute it at one input. -/
def freshRightWrong : ChangeSpec := { name := "freshRight", fn := fun _ => fun
  | [d1, d2, d3] => { results := [.lit (.bool false)], args := [d1, d2, d3] }
  | _ => none }
def FreshRightWrongFalsely : Prop := freshRightRow.holds Try.pinned (OpenSpec.ofChange freshRightWrong)

/-- 'crossbarlaw16.FreshBack': WHATEVER THE INPUT: true; the input reads as it did. -/
def freshBackSpec : ChangeSpec := { name := "freshBack", fn := fun _ => fun
  | [d1, d2, d3] => { results := [.lit (.bool true)], args := [d1, d2, d3] }
  | _ => none }
def freshBackRow : OpenClaim := { program := "ytkkkjjonjdkngaa", sum := "a558b3f0ca11b63cd58fdf20e511a07882468e10118f4c09ed10e0e25f3de5e7", func := "crossbar/crossbarlaw16.FreshBack", spec := "freshBack", apart := false }
def FreshBackSaid : Prop := freshBackRow.holds Try.pinned (OpenSpec.ofChange freshBackSpec)

/-- ITS FALSE NEIGHBOUR: 'it returns false'. Refute it at one input. -/
def freshBackWrong : ChangeSpec := { name := "freshBack", fn := fun _ => fun
  | [d1, d2, d3] => { results := [.lit (.bool false)], args := [d1, d2, d3] }
  | _ => none }
def FreshBackWrongFalsely : Prop := freshBackRow.holds Try.pinned (OpenSpec.ofChange freshBackWrong)

/-- 'crossbarlaw16.FreshAnew': WHATEVER THE INPUT: true; the input reads as it did. -/
def freshAnewSpec : ChangeSpec := { name := "freshAnew", fn := fun _ => fun
  | [d1, d2, d3, d4] => { results := [.lit (.bool true)], args := [d1, d2, d3, d4] }
  | _ => none }
def freshAnewRow : OpenClaim := { program := "ytkkkjjonjdkngaa", sum := "a558b3f0ca11b63cd58fdf20e511a07882468e10118f4c09ed10e0e25f3de5e7", func := "crossbar/crossbarlaw16.FreshAnew", spec := "freshAnew", apart := false }
def FreshAnewSaid : Prop := freshAnewRow.holds Try.pinned (OpenSpec.ofChange freshAnewSpec)

/-- ITS FALSE NEIGHBOUR: 'it returns false'. Refute it at one input. -/
def freshAnewWrong : ChangeSpec := { name := "freshAnew", fn := fun _ => fun
  | [d1, d2, d3, d4] => { results := [.lit (.bool false)], args := [d1, d2, d3, d4] }
  | _ => none }
def FreshAnewWrongFalsely : Prop := freshAnewRow.holds Try.pinned (OpenSpec.ofChange freshAnewWrong)

/-- 'crossbarlaw08.ElemRight': WHATEVER THE INPUT: true; the input reads as it did. -/
def elemRightSpec : ChangeSpec := { name := "elemRight", fn := fun _ => fun
  | [d1, d2, d3] => { results := [.lit (.bool true)], args := [d1, d2, d3] }
  | _ => none }
def elemRightRow : OpenClaim := { program := "ytkkkjjonjdkngaa", sum := "a558b3f0ca11b63cd58fdf20e511a07882468e10118f4c09ed10e0e25f3de5e7", func := "crossbar/crossbarlaw08.ElemRight", spec := "elemRight", unfollowed := true, recurses := true, apart := false }
def ElemRightSaid : Prop := elemRightRow.holds Try.pinned (OpenSpec.ofChange elemRightSpec)

/-- ITS FALSE NEIGHBOUR: 'it returns false'. Refute it at one input. -/
def elemRightWrong : ChangeSpec := { name := "elemRight", fn := fun _ => fun
  | [d1, d2, d3] => { results := [.lit (.bool false)], args := [d1, d2, d3] }
  | _ => none }
def ElemRightWrongFalsely : Prop := elemRightRow.holds Try.pinned (OpenSpec.ofChange elemRightWrong)

/-- 'crossbarlaw08.ElemBack': WHATEVER THE INPUT: true; the input reads as it did. -/
def elemBackSpec : ChangeSpec := { name := "elemBack", fn := fun _ => fun
  | [d1, d2, d3, d4] => { results := [.lit (.bool true)], args := [d1, d2, d3, d4] }
  | _ => none }
def elemBackRow : OpenClaim := { program := "ytkkkjjonjdkngaa", sum := "a558b3f0ca11b63cd58fdf20e511a07882468e10118f4c09ed10e0e25f3de5e7", func := "crossbar/crossbarlaw08.ElemBack", spec := "elemBack", unfollowed := true, recurses := true, apart := false }
def ElemBackSaid : Prop := elemBackRow.holds Try.pinned (OpenSpec.ofChange elemBackSpec)

/-- ITS FALSE NEIGHBOUR: 'it returns false'. Refute it at one input. -/
def elemBackWrong : ChangeSpec := { name := "elemBack", fn := fun _ => fun
  | [d1, d2, d3, d4] => { results := [.lit (.bool false)], args := [d1, d2, d3, d4] }
  | _ => none }
def ElemBackWrongFalsely : Prop := elemBackRow.holds Try.pinned (OpenSpec.ofChange elemBackWrong)

/-- 'crossbarlaw08.ElemPads': WHATEVER THE INPUT: true; the input reads as it did. -/
def elemPadsSpec : ChangeSpec := { name := "elemPads", fn := fun _ => fun
  | [d1, d2, d3, d4] => { results := [.lit (.bool true)], args := [d1, d2, d3, d4] }
  | _ => none }
def elemPadsRow : OpenClaim := { program := "ytkkkjjonjdkngaa", sum := "a558b3f0ca11b63cd58fdf20e511a07882468e10118f4c09ed10e0e25f3de5e7", func := "crossbar/crossbarlaw08.ElemPads", spec := "elemPads", unfollowed := true, recurses := true, apart := false }
def ElemPadsSaid : Prop := elemPadsRow.holds Try.pinned (OpenSpec.ofChange elemPadsSpec)

/-- ITS FALSE NEIGHBOUR: 'it returns false'. Refute it at one input. -/
def elemPadsWrong : ChangeSpec := { name := "elemPads", fn := fun _ => fun
  | [d1, d2, d3, d4] => { results := [.lit (.bool false)], args := [d1, d2, d3, d4] }
  | _ => none }
def ElemPadsWrongFalsely : Prop := elemPadsRow.holds Try.pinned (OpenSpec.ofChange elemPadsWrong)

/-- 'crossbarlaw17.RembRight': WHATEVER THE INPUT: true; the input reads as it did. -/
def rembRightSpec : ChangeSpec := { name := "rembRight", fn := fun _ => fun
  | [d1, d2, d3] => { results := [.lit (.bool true)], args := [d1, d2, d3] }
  | _ => none }
def rembRightRow : OpenClaim := { program := "ytkkkjjonjdkngaa", sum := "a558b3f0ca11b63cd58fdf20e511a07882468e10118f4c09ed10e0e25f3de5e7", func := "crossbar/crossbarlaw17.RembRight", spec := "rembRight", apart := false }
def RembRightSaid : Prop := rembRightRow.holds Try.pinned (OpenSpec.ofChange rembRightSpec)

/-- ITS FALSE NEIGHBOUR: 'it returns false'. Refute it at one input. -/
def rembRightWrong : ChangeSpec := { name := "rembRight", fn := fun _ => fun
  | [d1, d2, d3] => { results := [.lit (.bool false)], args := [d1, d2, d3] }
  | _ => none }
def RembRightWrongFalsely : Prop := rembRightRow.holds Try.pinned (OpenSpec.ofChange rembRightWrong)

/-- 'crossbarlaw17.RembBack': WHATEVER THE INPUT: true; the input reads as it did. -/
def rembBackSpec : ChangeSpec := { name := "rembBack", fn := fun _ => fun
  | [d1, d2, d3] => { results := [.lit (.bool true)], args := [d1, d2, d3] }
  | _ => none }
def rembBackRow : OpenClaim := { program := "ytkkkjjonjdkngaa", sum := "a558b3f0ca11b63cd58fdf20e511a07882468e10118f4c09ed10e0e25f3de5e7", func := "crossbar/crossbarlaw17.RembBack", spec := "rembBack", apart := false }
def RembBackSaid : Prop := rembBackRow.holds Try.pinned (OpenSpec.ofChange rembBackSpec)

/-- ITS FALSE NEIGHBOUR: 'it returns false'. Refute it at one input. -/
def rembBackWrong : ChangeSpec := { name := "rembBack", fn := fun _ => fun
  | [d1, d2, d3] => { results := [.lit (.bool false)], args := [d1, d2, d3] }
  | _ => none }
def RembBackWrongFalsely : Prop := rembBackRow.holds Try.pinned (OpenSpec.ofChange rembBackWrong)

/-- 'crossbarlaw17.RembLeast': WHATEVER THE INPUT: true; the input reads as it did. -/
def rembLeastSpec : ChangeSpec := { name := "rembLeast", fn := fun _ => fun
  | [d1, d2, d3, d4] => { results := [.lit (.bool true)], args := [d1, d2, d3, d4] }
  | _ => none }
def rembLeastRow : OpenClaim := { program := "ytkkkjjonjdkngaa", sum := "a558b3f0ca11b63cd58fdf20e511a07882468e10118f4c09ed10e0e25f3de5e7", func := "crossbar/crossbarlaw17.RembLeast", spec := "rembLeast", apart := false }
def RembLeastSaid : Prop := rembLeastRow.holds Try.pinned (OpenSpec.ofChange rembLeastSpec)

/-- ITS FALSE NEIGHBOUR: 'it returns false'. Refute it at one input. -/
def rembLeastWrong : ChangeSpec := { name := "rembLeast", fn := fun _ => fun
  | [d1, d2, d3, d4] => { results := [.lit (.bool false)], args := [d1, d2, d3, d4] }
  | _ => none }
def RembLeastWrongFalsely : Prop := rembLeastRow.holds Try.pinned (OpenSpec.ofChange rembLeastWrong)

/-- 'crossbarlaw17.RembSame': WHATEVER THE INPUT: true; the input reads as it did. -/
def rembSameSpec : ChangeSpec := { name := "rembSame", fn := fun _ => fun
  | [d1, d2] => { results := [.lit (.bool true)], args := [d1, d2] }
  | _ => none }
def rembSameRow : OpenClaim := { program := "ytkkkjjonjdkngaa", sum := "a558b3f0ca11b63cd58fdf20e511a07882468e10118f4c09ed10e0e25f3de5e7", func := "crossbar/crossbarlaw17.RembSame", spec := "rembSame", apart := false }
def RembSameSaid : Prop := rembSameRow.holds Try.pinned (OpenSpec.ofChange rembSameSpec)

/-- ITS FALSE NEIGHBOUR: 'it returns false'. Refute it at one input. -/
def rembSameWrong : ChangeSpec := { name := "rembSame", fn := fun _ => fun
  | [d1, d2] => { results := [.lit (.bool false)], args := [d1, d2] }
  | _ => none }
def RembSameWrongFalsely : Prop := rembSameRow.holds Try.pinned (OpenSpec.ofChange rembSameWrong)

/- THE SECOND FORM. 'bulk': how many values and letters a reading holds, each counted each time it is reached (what is shared counts as often as it is met; a slice's spare places count too). A statement '..UptoSaid' is the law's where the arguments, and the package variables that the reading takes, are together of bulk at most 1048576: NARROWER than '..Said'. Prove '..Said' where nothing that the law and all that it calls make is longer than what came in: it says more and counts as full. Else prove '..UptoSaid'. A law counts once. -/
mutual
def uptoBulk {H : Type} : DataW H → Nat
  | .lit (.string bytes) => bytes.length + 1
  | .lit _ => 1
  | .nil => 1
  | .ptr d => uptoBulk d + 1
  | .slice elems spare => uptoBulkAll elems + uptoBulkAll spare + 1
  | .agg parts => uptoBulkAll parts + 1
  | .iface _ d => uptoBulk d + 1
  | .map entries => uptoBulkEntries entries + 1
  | .held _ => 1
def uptoBulkAll {H : Type} : List (DataW H) → Nat
  | [] => 0
  | d :: r => uptoBulk d + uptoBulkAll r
def uptoBulkEntries {H : Type} : List (Lit × DataW H) → Nat
  | [] => 0
  | x :: r => uptoBulkEntry x + uptoBulkEntries r
def uptoBulkEntry {H : Type} : Lit × DataW H → Nat
  | (.string bytes, d) => bytes.length + uptoBulk d + 1
  | (_, d) => uptoBulk d + 1
 end
def uptoSmall : (H : Type) → List (DataW H) → Bool := fun _ ds => decide (uptoBulkAll ds ≤ 1048576)
def OpenSpec.upto (s : _root_.Go.ChangeSpec) : _root_.Go.OpenSpec := { _root_.Go.OpenSpec.ofChange s with cond := some uptoSmall }

/-- 'crossbarlaw16.FreshRight', WHERE WHAT IT READS IS OF BULK AT MOST 1048576: true; the input reads as it did. -/
def freshRightUptoRow : OpenClaim := { program := "ytkkkjjonjdkngaa", sum := "a558b3f0ca11b63cd58fdf20e511a07882468e10118f4c09ed10e0e25f3de5e7", func := "crossbar/crossbarlaw16.FreshRight", spec := "freshRight", apart := false, narrowed := true }
def FreshRightUptoSaid : Prop := freshRightUptoRow.holds Try.pinned (OpenSpec.upto freshRightSpec)

/-- 'crossbarlaw16.FreshBack', WHERE WHAT IT READS IS OF BULK AT MOST 1048576: true; the input reads as it did. -/
def freshBackUptoRow : OpenClaim := { program := "ytkkkjjonjdkngaa", sum := "a558b3f0ca11b63cd58fdf20e511a07882468e10118f4c09ed10e0e25f3de5e7", func := "crossbar/crossbarlaw16.FreshBack", spec := "freshBack", apart := false, narrowed := true }
def FreshBackUptoSaid : Prop := freshBackUptoRow.holds Try.pinned (OpenSpec.upto freshBackSpec)

/-- 'crossbarlaw16.FreshAnew', WHERE WHAT IT READS IS OF BULK AT MOST 1048576: true; the input reads as it did. -/
def freshAnewUptoRow : OpenClaim := { program := "ytkkkjjonjdkngaa", sum := "a558b3f0ca11b63cd58fdf20e511a07882468e10118f4c09ed10e0e25f3de5e7", func := "crossbar/crossbarlaw16.FreshAnew", spec := "freshAnew", apart := false, narrowed := true }
def FreshAnewUptoSaid : Prop := freshAnewUptoRow.holds Try.pinned (OpenSpec.upto freshAnewSpec)

/-- 'crossbarlaw08.ElemRight', WHERE WHAT IT READS IS OF BULK AT MOST 1048576: true; the input reads as it did. -/
def elemRightUptoRow : OpenClaim := { program := "ytkkkjjonjdkngaa", sum := "a558b3f0ca11b63cd58fdf20e511a07882468e10118f4c09ed10e0e25f3de5e7", func := "crossbar/crossbarlaw08.ElemRight", spec := "elemRight", unfollowed := true, recurses := true, apart := false, narrowed := true }
def ElemRightUptoSaid : Prop := elemRightUptoRow.holds Try.pinned (OpenSpec.upto elemRightSpec)

/-- 'crossbarlaw08.ElemBack', WHERE WHAT IT READS IS OF BULK AT MOST 1048576: true; the input reads as it did. -/
def elemBackUptoRow : OpenClaim := { program := "ytkkkjjonjdkngaa", sum := "a558b3f0ca11b63cd58fdf20e511a07882468e10118f4c09ed10e0e25f3de5e7", func := "crossbar/crossbarlaw08.ElemBack", spec := "elemBack", unfollowed := true, recurses := true, apart := false, narrowed := true }
def ElemBackUptoSaid : Prop := elemBackUptoRow.holds Try.pinned (OpenSpec.upto elemBackSpec)

/-- 'crossbarlaw08.ElemPads', WHERE WHAT IT READS IS OF BULK AT MOST 1048576: true; the input reads as it did. -/
def elemPadsUptoRow : OpenClaim := { program := "ytkkkjjonjdkngaa", sum := "a558b3f0ca11b63cd58fdf20e511a07882468e10118f4c09ed10e0e25f3de5e7", func := "crossbar/crossbarlaw08.ElemPads", spec := "elemPads", unfollowed := true, recurses := true, apart := false, narrowed := true }
def ElemPadsUptoSaid : Prop := elemPadsUptoRow.holds Try.pinned (OpenSpec.upto elemPadsSpec)

/-- 'crossbarlaw17.RembRight', WHERE WHAT IT READS IS OF BULK AT MOST 1048576: true; the input reads as it did. -/
def rembRightUptoRow : OpenClaim := { program := "ytkkkjjonjdkngaa", sum := "a558b3f0ca11b63cd58fdf20e511a07882468e10118f4c09ed10e0e25f3de5e7", func := "crossbar/crossbarlaw17.RembRight", spec := "rembRight", apart := false, narrowed := true }
def RembRightUptoSaid : Prop := rembRightUptoRow.holds Try.pinned (OpenSpec.upto rembRightSpec)

/-- 'crossbarlaw17.RembBack', WHERE WHAT IT READS IS OF BULK AT MOST 1048576: true; the input reads as it did. -/
def rembBackUptoRow : OpenClaim := { program := "ytkkkjjonjdkngaa", sum := "a558b3f0ca11b63cd58fdf20e511a07882468e10118f4c09ed10e0e25f3de5e7", func := "crossbar/crossbarlaw17.RembBack", spec := "rembBack", apart := false, narrowed := true }
def RembBackUptoSaid : Prop := rembBackUptoRow.holds Try.pinned (OpenSpec.upto rembBackSpec)

/-- 'crossbarlaw17.RembLeast', WHERE WHAT IT READS IS OF BULK AT MOST 1048576: true; the input reads as it did. -/
def rembLeastUptoRow : OpenClaim := { program := "ytkkkjjonjdkngaa", sum := "a558b3f0ca11b63cd58fdf20e511a07882468e10118f4c09ed10e0e25f3de5e7", func := "crossbar/crossbarlaw17.RembLeast", spec := "rembLeast", apart := false, narrowed := true }
def RembLeastUptoSaid : Prop := rembLeastUptoRow.holds Try.pinned (OpenSpec.upto rembLeastSpec)

/-- 'crossbarlaw17.RembSame', WHERE WHAT IT READS IS OF BULK AT MOST 1048576: true; the input reads as it did. -/
def rembSameUptoRow : OpenClaim := { program := "ytkkkjjonjdkngaa", sum := "a558b3f0ca11b63cd58fdf20e511a07882468e10118f4c09ed10e0e25f3de5e7", func := "crossbar/crossbarlaw17.RembSame", spec := "rembSame", apart := false, narrowed := true }
def RembSameUptoSaid : Prop := rembSameUptoRow.holds Try.pinned (OpenSpec.upto rembSameSpec)

end Rows
end Go.Proofs.Ytkkkjjonjdkngaa
