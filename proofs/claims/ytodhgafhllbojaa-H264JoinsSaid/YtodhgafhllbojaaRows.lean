/-
  No cell of these rows narrows 'for every input' (looked for: loops, veiled, ifaces, maps, wideKeys, modest, calm, conditions, laid).
  DERIVED. THE GIVEN ROWS OF THIS SEAT. 4 by the template 'for every input the law returns true; each argument reads behind the call as it read before'; 0 by the template 'total and deterministic' (their statements: YtodhgafhllbojaaTotals.lean).
  GIVEN WITH THE SEED: the statements are not yours to turn. If you find one false, say at which input.
  Laid BY PROGRAM, IN A SANDBOX (cutbox-rows.mjs): the forced cells as the released guide's own fill.sh prints them over the translation fbfe1219ba6922da… (all of the seat's roots in one cut). By AI agents, Wed Nov 11 2026. No macro, syntax, notation, axiom, sorry.
-/
import Derived.Test.YtodhgafhllbojaaChecked
import GoSem.Claim
import GoSem.ClaimJoined
import GoSem.ClaimMapViews
import Derived.JoinedTies
import Derived.KernelRfl
namespace Go.Proofs.Ytodhgafhllbojaa
/- THE CELL 'sum', in the pinned program and in every row, IS THE sha256 OF THE DUMP (.gsa) THAT YtodhgafhllbojaaProg.lean LOADS. Nothing in Lean hashes anything: it is a label: what it is worth is what the hold of that sum in a sandbox is worth. -/
noncomputable def Try.pinned : Pinned := { name := "ytodhgafhllbojaa", sum := "fbfe1219ba6922da90cfeb0a9edafdd7c710d5f78e3ae704e0cf4f9b551ddf52", checked := Try.checked }
namespace Rows
def none {H : Type} : Left H := { results := [], args := [] }

/-- 'crossbarlaw25.H264Right': WHATEVER THE INPUT: true; the input reads as it did. -/
def h264RightSpec : ChangeSpec := { name := "h264Right", fn := fun _ => fun
  | [d1, d2] => { results := [.lit (.bool true)], args := [d1, d2] }
  | _ => none }
def h264RightRow : OpenClaim := { program := "ytodhgafhllbojaa", sum := "fbfe1219ba6922da90cfeb0a9edafdd7c710d5f78e3ae704e0cf4f9b551ddf52", func := "crossbar/crossbarlaw25.H264Right", spec := "h264Right", apart := false }
def H264RightSaid : Prop := h264RightRow.holds Try.pinned (OpenSpec.ofChange h264RightSpec)

/-- ITS FALSE NEIGHBOUR: 'it returns false'. Refute it at one input. -/
def h264RightWrong : ChangeSpec := { name := "h264Right", fn := fun _ => fun
  | [d1, d2] => { results := [.lit (.bool false)], args := [d1, d2] }
  | _ => none }
def H264RightWrongFalsely : Prop := h264RightRow.holds Try.pinned (OpenSpec.ofChange h264RightWrong)

/-- 'crossbarlaw25.H264Parts': WHATEVER THE INPUT: true; the input reads as it did. -/
def h264PartsSpec : ChangeSpec := { name := "h264Parts", fn := fun _ => fun
  | [d1, d2, d3] => { results := [.lit (.bool true)], args := [d1, d2, d3] }
  | _ => none }
def h264PartsRow : OpenClaim := { program := "ytodhgafhllbojaa", sum := "fbfe1219ba6922da90cfeb0a9edafdd7c710d5f78e3ae704e0cf4f9b551ddf52", func := "crossbar/crossbarlaw25.H264Parts", spec := "h264Parts", apart := false }
def H264PartsSaid : Prop := h264PartsRow.holds Try.pinned (OpenSpec.ofChange h264PartsSpec)

/-- ITS FALSE NEIGHBOUR: 'it returns false'. Refute it at one input. -/
def h264PartsWrong : ChangeSpec := { name := "h264Parts", fn := fun _ => fun
  | [d1, d2, d3] => { results := [.lit (.bool false)], args := [d1, d2, d3] }
  | _ => none }
def H264PartsWrongFalsely : Prop := h264PartsRow.holds Try.pinned (OpenSpec.ofChange h264PartsWrong)

/-- 'crossbarlaw25.H264Back': WHATEVER THE INPUT: true; the input reads as it did. -/
def h264BackSpec : ChangeSpec := { name := "h264Back", fn := fun _ => fun
  | [d1, d2, d3] => { results := [.lit (.bool true)], args := [d1, d2, d3] }
  | _ => none }
def h264BackRow : OpenClaim := { program := "ytodhgafhllbojaa", sum := "fbfe1219ba6922da90cfeb0a9edafdd7c710d5f78e3ae704e0cf4f9b551ddf52", func := "crossbar/crossbarlaw25.H264Back", spec := "h264Back", apart := false }
def H264BackSaid : Prop := h264BackRow.holds Try.pinned (OpenSpec.ofChange h264BackSpec)

/-- ITS FALSE NEIGHBOUR: 'it returns false'. Refute it at one input. -/
def h264BackWrong : ChangeSpec := { name := "h264Back", fn := fun _ => fun
  | [d1, d2, d3] => { results := [.lit (.bool false)], args := [d1, d2, d3] }
  | _ => none }
def H264BackWrongFalsely : Prop := h264BackRow.holds Try.pinned (OpenSpec.ofChange h264BackWrong)

/-- 'crossbarlaw25.H264Joins': WHATEVER THE INPUT: true; the input reads as it did. -/
def h264JoinsSpec : ChangeSpec := { name := "h264Joins", fn := fun _ => fun
  | [d1, d2, d3] => { results := [.lit (.bool true)], args := [d1, d2, d3] }
  | _ => none }
def h264JoinsRow : OpenClaim := { program := "ytodhgafhllbojaa", sum := "fbfe1219ba6922da90cfeb0a9edafdd7c710d5f78e3ae704e0cf4f9b551ddf52", func := "crossbar/crossbarlaw25.H264Joins", spec := "h264Joins", apart := false }
def H264JoinsSaid : Prop := h264JoinsRow.holds Try.pinned (OpenSpec.ofChange h264JoinsSpec)

/-- ITS FALSE NEIGHBOUR: 'it returns false'. Refute it at one input. -/
def h264JoinsWrong : ChangeSpec := { name := "h264Joins", fn := fun _ => fun
  | [d1, d2, d3] => { results := [.lit (.bool false)], args := [d1, d2, d3] }
  | _ => none }
def H264JoinsWrongFalsely : Prop := h264JoinsRow.holds Try.pinned (OpenSpec.ofChange h264JoinsWrong)

/- THE SECOND FORM. 'bulk': how many values and letters a reading holds, each counted each time it is reached (what is shared counts as often as it is met; a slice's spare places count too). A statement '..UptoSaid' is the law's where the arguments, and the package variables that the reading takes, are together of bulk at most 1048576: NARROWER than '..Said'. Prove '..Said' where nothing that the law and all that it calls make is longer than what came in: it says more and counts as full. Else prove '..UptoSaid'. A law counts once. -/
mutual
def uptoBulk {H : Type} : DataW H → Nat
  | .lit (.string bytes) => bytes.length + 1
  | .lit _ => 1
  | .nil => 1
  | .ptr d => uptoBulk d + 1
  | .slice elems spare => uptoBulkAll elems + uptoBulkAll spare + 1
  | .agg parts => uptoBulkAll parts + 1
  | .iface _ d => uptoBulk d + 1
  | .map entries => uptoBulkEntries entries + 1
  | .held _ => 1
def uptoBulkAll {H : Type} : List (DataW H) → Nat
  | [] => 0
  | d :: r => uptoBulk d + uptoBulkAll r
def uptoBulkEntries {H : Type} : List (Lit × DataW H) → Nat
  | [] => 0
  | x :: r => uptoBulkEntry x + uptoBulkEntries r
def uptoBulkEntry {H : Type} : Lit × DataW H → Nat
  | (.string bytes, d) => bytes.length + uptoBulk d + 1
  | (_, d) => uptoBulk d + 1
 end
def uptoSmall : (H : Type) → List (DataW H) → Bool := fun _ ds => decide (uptoBulkAll ds ≤ 1048576)
def OpenSpec.upto (s : _root_.Go.ChangeSpec) : _root_.Go.OpenSpec := { _root_.Go.OpenSpec.ofChange s with cond := some uptoSmall }

/-- 'crossbarlaw25.H264Right', WHERE WHAT IT READS IS OF BULK AT MOST 1048576: true; the input reads as it did. -/
def h264RightUptoRow : OpenClaim := { program := "ytodhgafhllbojaa", sum := "fbfe1219ba6922da90cfeb0a9edafdd7c710d5f78e3ae704e0cf4f9b551ddf52", func := "crossbar/crossbarlaw25.H264Right", spec := "h264Right", apart := false, narrowed := true }
def H264RightUptoSaid : Prop := h264RightUptoRow.holds Try.pinned (OpenSpec.upto h264RightSpec)

/-- 'crossbarlaw25.H264Parts', WHERE WHAT IT READS IS OF BULK AT MOST 1048576: true; the input reads as it did. -/
def h264PartsUptoRow : OpenClaim := { program := "ytodhgafhllbojaa", sum := "fbfe1219ba6922da90cfeb0a9edafdd7c710d5f78e3ae704e0cf4f9b551ddf52", func := "crossbar/crossbarlaw25.H264Parts", spec := "h264Parts", apart := false, narrowed := true }
def H264PartsUptoSaid : Prop := h264PartsUptoRow.holds Try.pinned (OpenSpec.upto h264PartsSpec)

/-- 'crossbarlaw25.H264Back', WHERE WHAT IT READS IS OF BULK AT MOST 1048576: true; the input reads as it did. -/
def h264BackUptoRow : OpenClaim := { program := "ytodhgafhllbojaa", sum := "fbfe1219ba6922da90cfeb0a9edafdd7c710d5f78e3ae704e0cf4f9b551ddf52", func := "crossbar/crossbarlaw25.H264Back", spec := "h264Back", apart := false, narrowed := true }
def H264BackUptoSaid : Prop := h264BackUptoRow.holds Try.pinned (OpenSpec.upto h264BackSpec)

/-- 'crossbarlaw25.H264Joins', WHERE WHAT IT READS IS OF BULK AT MOST 1048576: true; the input reads as it did. -/
def h264JoinsUptoRow : OpenClaim := { program := "ytodhgafhllbojaa", sum := "fbfe1219ba6922da90cfeb0a9edafdd7c710d5f78e3ae704e0cf4f9b551ddf52", func := "crossbar/crossbarlaw25.H264Joins", spec := "h264Joins", apart := false, narrowed := true }
def H264JoinsUptoSaid : Prop := h264JoinsUptoRow.holds Try.pinned (OpenSpec.upto h264JoinsSpec)

end Rows
end Go.Proofs.Ytodhgafhllbojaa
