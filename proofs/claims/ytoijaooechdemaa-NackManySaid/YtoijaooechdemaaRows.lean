/-
  No cell of these rows narrows 'for every input' (looked for: loops, veiled, ifaces, maps, wideKeys, modest, calm, conditions, laid).
  DERIVED. THE GIVEN ROWS OF THIS SEAT. 11 by the template 'for every input the law returns true; each argument reads behind the call as it read before'; 0 by the template 'total and deterministic' (their statements: YtoijaooechdemaaTotals.lean).
  GIVEN WITH THE SEED: the statements are not yours to turn. If you find one false, say at which input.
  Laid BY PROGRAM, IN A SANDBOX (cutbox-rows.mjs): the forced cells as the released guide's own fill.sh prints them over the translation d20eeca0a57773ab… (all of the seat's roots in one cut). By AI agents, Wed Nov 11 2026. No macro, syntax, notation, axiom, sorry.
-/
import Derived.Test.YtoijaooechdemaaChecked
import GoSem.Claim
import GoSem.ClaimJoined
import GoSem.ClaimMapViews
import Derived.JoinedTies
import Derived.KernelRfl
namespace Go.Proofs.Ytoijaooechdemaa
/- THE CELL 'sum', in the pinned program and in every row, IS THE sha256 OF THE DUMP (.gsa) THAT YtoijaooechdemaaProg.lean LOADS. Nothing in Lean hashes anything: it is a label: what it is worth is what the hold of that sum in a sandbox is worth. -/
noncomputable def Try.pinned : Pinned := { name := "ytoijaooechdemaa", sum := "d20eeca0a57773abce27d1256b6650b0f18985c1492ecacd872d5547c13e25d9", checked := Try.checked }
namespace Rows
def none {H : Type} : Left H := { results := [], args := [] }

/-- 'crossbarlaw01.OctetSet': WHATEVER THE INPUT: true; the input reads as it did. -/
def octetSetSpec : ChangeSpec := { name := "octetSet", fn := fun _ => fun
  | [d1, d2, d3, d4, d5, d6, d7] => { results := [.lit (.bool true)], args := [d1, d2, d3, d4, d5, d6, d7] }
  | _ => none }
def octetSetRow : OpenClaim := { program := "ytoijaooechdemaa", sum := "d20eeca0a57773abce27d1256b6650b0f18985c1492ecacd872d5547c13e25d9", func := "crossbar/crossbarlaw01.OctetSet", spec := "octetSet", apart := false }
def OctetSetSaid : Prop := octetSetRow.holds Try.pinned (OpenSpec.ofChange octetSetSpec)

/-- ITS FALSE NEIGHBOUR: 'it returns false'. Refute it at one input. -/
def octetSetWrong : ChangeSpec := { name := "octetSet", fn := fun _ => fun
  | [d1, d2, d3, d4, d5, d6, d7] => { results := [.lit (.bool false)], args := [d1, d2, d3, d4, d5, d6, d7] }
  | _ => none }
def OctetSetWrongFalsely : Prop := octetSetRow.holds Try.pinned (OpenSpec.ofChange octetSetWrong)

/-- 'crossbarlaw01.OctetRight': WHATEVER THE INPUT: true; the input reads as it did. -/
def octetRightSpec : ChangeSpec := { name := "octetRight", fn := fun _ => fun
  | [d1, d2, d3, d4, d5] => { results := [.lit (.bool true)], args := [d1, d2, d3, d4, d5] }
  | _ => none }
def octetRightRow : OpenClaim := { program := "ytoijaooechdemaa", sum := "d20eeca0a57773abce27d1256b6650b0f18985c1492ecacd872d5547c13e25d9", func := "crossbar/crossbarlaw01.OctetRight", spec := "octetRight", apart := false }
def OctetRightSaid : Prop := octetRightRow.holds Try.pinned (OpenSpec.ofChange octetRightSpec)

/-- ITS FALSE NEIGHBOUR: 'it returns false'. Refute it at one input. -/
def octetRightWrong : ChangeSpec := { name := "octetRight", fn := fun _ => fun
  | [d1, d2, d3, d4, d5] => { results := [.lit (.bool false)], args := [d1, d2, d3, d4, d5] }
  | _ => none }
def OctetRightWrongFalsely : Prop := octetRightRow.holds Try.pinned (OpenSpec.ofChange octetRightWrong)

/-- 'crossbarlaw01.OctetJoin': WHATEVER THE INPUT: true; the input reads as it did. -/
def octetJoinSpec : ChangeSpec := { name := "octetJoin", fn := fun _ => fun
  | [d1, d2, d3, d4, d5] => { results := [.lit (.bool true)], args := [d1, d2, d3, d4, d5] }
  | _ => none }
def octetJoinRow : OpenClaim := { program := "ytoijaooechdemaa", sum := "d20eeca0a57773abce27d1256b6650b0f18985c1492ecacd872d5547c13e25d9", func := "crossbar/crossbarlaw01.OctetJoin", spec := "octetJoin", apart := false }
def OctetJoinSaid : Prop := octetJoinRow.holds Try.pinned (OpenSpec.ofChange octetJoinSpec)

/-- ITS FALSE NEIGHBOUR: 'it returns false'. Refute it at one input. -/
def octetJoinWrong : ChangeSpec := { name := "octetJoin", fn := fun _ => fun
  | [d1, d2, d3, d4, d5] => { results := [.lit (.bool false)], args := [d1, d2, d3, d4, d5] }
  | _ => none }
def OctetJoinWrongFalsely : Prop := octetJoinRow.holds Try.pinned (OpenSpec.ofChange octetJoinWrong)

/-- 'crossbarlaw15.NackRight': WHATEVER THE INPUT: true; the input reads as it did. -/
def nackRightSpec : ChangeSpec := { name := "nackRight", fn := fun _ => fun
  | [d1, d2, d3] => { results := [.lit (.bool true)], args := [d1, d2, d3] }
  | _ => none }
def nackRightRow : OpenClaim := { program := "ytoijaooechdemaa", sum := "d20eeca0a57773abce27d1256b6650b0f18985c1492ecacd872d5547c13e25d9", func := "crossbar/crossbarlaw15.NackRight", spec := "nackRight", unfollowed := true, recurses := true, apart := false }
def NackRightSaid : Prop := nackRightRow.holds Try.pinned (OpenSpec.ofChange nackRightSpec)

/-- ITS FALSE NEIGHBOUR: 'it returns false'. Refute it at one input. -/
def nackRightWrong : ChangeSpec := { name := "nackRight", fn := fun _ => fun
  | [d1, d2, d3] => { results := [.lit (.bool false)], args := [d1, d2, d3] }
  | _ => none }
def NackRightWrongFalsely : Prop := nackRightRow.holds Try.pinned (OpenSpec.ofChange nackRightWrong)

/-- 'crossbarlaw15.NackMany': WHATEVER THE INPUT: true; the input reads as it did. -/
def nackManySpec : ChangeSpec := { name := "nackMany", fn := fun _ => fun
  | [d1, d2] => { results := [.lit (.bool true)], args := [d1, d2] }
  | _ => none }
def nackManyRow : OpenClaim := { program := "ytoijaooechdemaa", sum := "d20eeca0a57773abce27d1256b6650b0f18985c1492ecacd872d5547c13e25d9", func := "crossbar/crossbarlaw15.NackMany", spec := "nackMany", unfollowed := true, recurses := true, apart := false }
def NackManySaid : Prop := nackManyRow.holds Try.pinned (OpenSpec.ofChange nackManySpec)

/-- ITS FALSE NEIGHBOUR: 'it returns false'. Refute it at one input. -/
def nackManyWrong : ChangeSpec := { name := "nackMany", fn := fun _ => fun
  | [d1, d2] => { results := [.lit (.bool false)], args := [d1, d2] }
  | _ => none }
def NackManyWrongFalsely : Prop := nackManyRow.holds Try.pinned (OpenSpec.ofChange nackManyWrong)

/-- 'crossbarlaw15.NackBack': WHATEVER THE INPUT: true; the input reads as it did. -/
def nackBackSpec : ChangeSpec := { name := "nackBack", fn := fun _ => fun
  | [d1, d2, d3] => { results := [.lit (.bool true)], args := [d1, d2, d3] }
  | _ => none }
def nackBackRow : OpenClaim := { program := "ytoijaooechdemaa", sum := "d20eeca0a57773abce27d1256b6650b0f18985c1492ecacd872d5547c13e25d9", func := "crossbar/crossbarlaw15.NackBack", spec := "nackBack", unfollowed := true, recurses := true, apart := false }
def NackBackSaid : Prop := nackBackRow.holds Try.pinned (OpenSpec.ofChange nackBackSpec)

/-- ITS FALSE NEIGHBOUR: 'it returns false'. Refute it at one input. -/
def nackBackWrong : ChangeSpec := { name := "nackBack", fn := fun _ => fun
  | [d1, d2, d3] => { results := [.lit (.bool false)], args := [d1, d2, d3] }
  | _ => none }
def NackBackWrongFalsely : Prop := nackBackRow.holds Try.pinned (OpenSpec.ofChange nackBackWrong)

/-- 'crossbarlaw15.NackJoins': WHATEVER THE INPUT: true; the input reads as it did. -/
def nackJoinsSpec : ChangeSpec := { name := "nackJoins", fn := fun _ => fun
  | [d1, d2, d3, d4] => { results := [.lit (.bool true)], args := [d1, d2, d3, d4] }
  | _ => none }
def nackJoinsRow : OpenClaim := { program := "ytoijaooechdemaa", sum := "d20eeca0a57773abce27d1256b6650b0f18985c1492ecacd872d5547c13e25d9", func := "crossbar/crossbarlaw15.NackJoins", spec := "nackJoins", unfollowed := true, recurses := true, apart := false }
def NackJoinsSaid : Prop := nackJoinsRow.holds Try.pinned (OpenSpec.ofChange nackJoinsSpec)

/-- ITS FALSE NEIGHBOUR: 'it returns false'. Refute it at one input. -/
def nackJoinsWrong : ChangeSpec := { name := "nackJoins", fn := fun _ => fun
  | [d1, d2, d3, d4] => { results := [.lit (.bool false)], args := [d1, d2, d3, d4] }
  | _ => none }
def NackJoinsWrongFalsely : Prop := nackJoinsRow.holds Try.pinned (OpenSpec.ofChange nackJoinsWrong)

/-- 'crossbarlaw05.HeadRight': WHATEVER THE INPUT: true; the input reads as it did. -/
def headRightSpec : ChangeSpec := { name := "headRight", fn := fun _ => fun
  | [d1, d2] => { results := [.lit (.bool true)], args := [d1, d2] }
  | _ => none }
def headRightRow : OpenClaim := { program := "ytoijaooechdemaa", sum := "d20eeca0a57773abce27d1256b6650b0f18985c1492ecacd872d5547c13e25d9", func := "crossbar/crossbarlaw05.HeadRight", spec := "headRight", apart := false }
def HeadRightSaid : Prop := headRightRow.holds Try.pinned (OpenSpec.ofChange headRightSpec)

/-- ITS FALSE NEIGHBOUR: 'it returns false'. Refute it at one input. -/
def headRightWrong : ChangeSpec := { name := "headRight", fn := fun _ => fun
  | [d1, d2] => { results := [.lit (.bool false)], args := [d1, d2] }
  | _ => none }
def HeadRightWrongFalsely : Prop := headRightRow.holds Try.pinned (OpenSpec.ofChange headRightWrong)

/-- 'crossbarlaw05.HeadBack': WHATEVER THE INPUT: true; the input reads as it did. -/
def headBackSpec : ChangeSpec := { name := "headBack", fn := fun _ => fun
  | [d1, d2, d3, d4] => { results := [.lit (.bool true)], args := [d1, d2, d3, d4] }
  | _ => none }
def headBackRow : OpenClaim := { program := "ytoijaooechdemaa", sum := "d20eeca0a57773abce27d1256b6650b0f18985c1492ecacd872d5547c13e25d9", func := "crossbar/crossbarlaw05.HeadBack", spec := "headBack", apart := false }
def HeadBackSaid : Prop := headBackRow.holds Try.pinned (OpenSpec.ofChange headBackSpec)

/-- ITS FALSE NEIGHBOUR: 'it returns false'. Refute it at one input. -/
def headBackWrong : ChangeSpec := { name := "headBack", fn := fun _ => fun
  | [d1, d2, d3, d4] => { results := [.lit (.bool false)], args := [d1, d2, d3, d4] }
  | _ => none }
def HeadBackWrongFalsely : Prop := headBackRow.holds Try.pinned (OpenSpec.ofChange headBackWrong)

/-- 'crossbarlaw05.HeadBits': WHATEVER THE INPUT: true; the input reads as it did. -/
def headBitsSpec : ChangeSpec := { name := "headBits", fn := fun _ => fun
  | [d1, d2, d3] => { results := [.lit (.bool true)], args := [d1, d2, d3] }
  | _ => none }
def headBitsRow : OpenClaim := { program := "ytoijaooechdemaa", sum := "d20eeca0a57773abce27d1256b6650b0f18985c1492ecacd872d5547c13e25d9", func := "crossbar/crossbarlaw05.HeadBits", spec := "headBits", apart := false }
def HeadBitsSaid : Prop := headBitsRow.holds Try.pinned (OpenSpec.ofChange headBitsSpec)

/-- ITS FALSE NEIGHBOUR: 'it returns false'. Refute it at one input. -/
def headBitsWrong : ChangeSpec := { name := "headBits", fn := fun _ => fun
  | [d1, d2, d3] => { results := [.lit (.bool false)], args := [d1, d2, d3] }
  | _ => none }
def HeadBitsWrongFalsely : Prop := headBitsRow.holds Try.pinned (OpenSpec.ofChange headBitsWrong)

/-- 'crossbarlaw01.OctetBack': WHATEVER THE INPUT: true; the input reads as it did. -/
def octetBackSpec : ChangeSpec := { name := "octetBack", fn := fun _ => fun
  | [d1, d2, d3, d4, d5, d6] => { results := [.lit (.bool true)], args := [d1, d2, d3, d4, d5, d6] }
  | _ => none }
def octetBackRow : OpenClaim := { program := "ytoijaooechdemaa", sum := "d20eeca0a57773abce27d1256b6650b0f18985c1492ecacd872d5547c13e25d9", func := "crossbar/crossbarlaw01.OctetBack", spec := "octetBack", apart := false }
def OctetBackSaid : Prop := octetBackRow.holds Try.pinned (OpenSpec.ofChange octetBackSpec)

/-- ITS FALSE NEIGHBOUR: 'it returns false'. Refute it at one input. -/
def octetBackWrong : ChangeSpec := { name := "octetBack", fn := fun _ => fun
  | [d1, d2, d3, d4, d5, d6] => { results := [.lit (.bool false)], args := [d1, d2, d3, d4, d5, d6] }
  | _ => none }
def OctetBackWrongFalsely : Prop := octetBackRow.holds Try.pinned (OpenSpec.ofChange octetBackWrong)

/- THE SECOND FORM. 'bulk': how many values and letters a reading holds, each counted each time it is reached (what is shared counts as often as it is met; a slice's spare places count too). A statement '..UptoSaid' is the law's where the arguments, and the package variables that the reading takes, are together of bulk at most 1048576: NARROWER than '..Said'. Prove '..Said' where nothing that the law and all that it calls make is longer than what came in: it says more and counts as full. Else prove '..UptoSaid'. A law counts once. -/
mutual
def uptoBulk {H : Type} : DataW H → Nat
  | .lit (.string bytes) => bytes.length + 1
  | .lit _ => 1
  | .nil => 1
  | .ptr d => uptoBulk d + 1
  | .slice elems spare => uptoBulkAll elems + uptoBulkAll spare + 1
  | .agg parts => uptoBulkAll parts + 1
  | .iface _ d => uptoBulk d + 1
  | .map entries => uptoBulkEntries entries + 1
  | .held _ => 1
def uptoBulkAll {H : Type} : List (DataW H) → Nat
  | [] => 0
  | d :: r => uptoBulk d + uptoBulkAll r
def uptoBulkEntries {H : Type} : List (Lit × DataW H) → Nat
  | [] => 0
  | x :: r => uptoBulkEntry x + uptoBulkEntries r
def uptoBulkEntry {H : Type} : Lit × DataW H → Nat
  | (.string bytes, d) => bytes.length + uptoBulk d + 1
  | (_, d) => uptoBulk d + 1
 end
def uptoSmall : (H : Type) → List (DataW H) → Bool := fun _ ds => decide (uptoBulkAll ds ≤ 1048576)
def OpenSpec.upto (s : _root_.Go.ChangeSpec) : _root_.Go.OpenSpec := { _root_.Go.OpenSpec.ofChange s with cond := some uptoSmall }

/-- 'crossbarlaw01.OctetSet', WHERE WHAT IT READS IS OF BULK AT MOST 1048576: true; the input reads as it did. -/
def octetSetUptoRow : OpenClaim := { program := "ytoijaooechdemaa", sum := "d20eeca0a57773abce27d1256b6650b0f18985c1492ecacd872d5547c13e25d9", func := "crossbar/crossbarlaw01.OctetSet", spec := "octetSet", apart := false, narrowed := true }
def OctetSetUptoSaid : Prop := octetSetUptoRow.holds Try.pinned (OpenSpec.upto octetSetSpec)

/-- 'crossbarlaw01.OctetRight', WHERE WHAT IT READS IS OF BULK AT MOST 1048576: true; the input reads as it did. -/
def octetRightUptoRow : OpenClaim := { program := "ytoijaooechdemaa", sum := "d20eeca0a57773abce27d1256b6650b0f18985c1492ecacd872d5547c13e25d9", func := "crossbar/crossbarlaw01.OctetRight", spec := "octetRight", apart := false, narrowed := true }
def OctetRightUptoSaid : Prop := octetRightUptoRow.holds Try.pinned (OpenSpec.upto octetRightSpec)

/-- 'crossbarlaw01.OctetJoin', WHERE WHAT IT READS IS OF BULK AT MOST 1048576: true; the input reads as it did. -/
def octetJoinUptoRow : OpenClaim := { program := "ytoijaooechdemaa", sum := "d20eeca0a57773abce27d1256b6650b0f18985c1492ecacd872d5547c13e25d9", func := "crossbar/crossbarlaw01.OctetJoin", spec := "octetJoin", apart := false, narrowed := true }
def OctetJoinUptoSaid : Prop := octetJoinUptoRow.holds Try.pinned (OpenSpec.upto octetJoinSpec)

/-- 'crossbarlaw15.NackRight', WHERE WHAT IT READS IS OF BULK AT MOST 1048576: true; the input reads as it did. -/
def nackRightUptoRow : OpenClaim := { program := "ytoijaooechdemaa", sum := "d20eeca0a57773abce27d1256b6650b0f18985c1492ecacd872d5547c13e25d9", func := "crossbar/crossbarlaw15.NackRight", spec := "nackRight", unfollowed := true, recurses := true, apart := false, narrowed := true }
def NackRightUptoSaid : Prop := nackRightUptoRow.holds Try.pinned (OpenSpec.upto nackRightSpec)

/-- 'crossbarlaw15.NackMany', WHERE WHAT IT READS IS OF BULK AT MOST 1048576: true; the input reads as it did. -/
def nackManyUptoRow : OpenClaim := { program := "ytoijaooechdemaa", sum := "d20eeca0a57773abce27d1256b6650b0f18985c1492ecacd872d5547c13e25d9", func := "crossbar/crossbarlaw15.NackMany", spec := "nackMany", unfollowed := true, recurses := true, apart := false, narrowed := true }
def NackManyUptoSaid : Prop := nackManyUptoRow.holds Try.pinned (OpenSpec.upto nackManySpec)

/-- 'crossbarlaw15.NackBack', WHERE WHAT IT READS IS OF BULK AT MOST 1048576: true; the input reads as it did. -/
def nackBackUptoRow : OpenClaim := { program := "ytoijaooechdemaa", sum := "d20eeca0a57773abce27d1256b6650b0f18985c1492ecacd872d5547c13e25d9", func := "crossbar/crossbarlaw15.NackBack", spec := "nackBack", unfollowed := true, recurses := true, apart := false, narrowed := true }
def NackBackUptoSaid : Prop := nackBackUptoRow.holds Try.pinned (OpenSpec.upto nackBackSpec)

/-- 'crossbarlaw15.NackJoins', WHERE WHAT IT READS IS OF BULK AT MOST 1048576: true; the input reads as it did. -/
def nackJoinsUptoRow : OpenClaim := { program := "ytoijaooechdemaa", sum := "d20eeca0a57773abce27d1256b6650b0f18985c1492ecacd872d5547c13e25d9", func := "crossbar/crossbarlaw15.NackJoins", spec := "nackJoins", unfollowed := true, recurses := true, apart := false, narrowed := true }
def NackJoinsUptoSaid : Prop := nackJoinsUptoRow.holds Try.pinned (OpenSpec.upto nackJoinsSpec)

/-- 'crossbarlaw05.HeadRight', WHERE WHAT IT READS IS OF BULK AT MOST 1048576: true; the input reads as it did. -/
def headRightUptoRow : OpenClaim := { program := "ytoijaooechdemaa", sum := "d20eeca0a57773abce27d1256b6650b0f18985c1492ecacd872d5547c13e25d9", func := "crossbar/crossbarlaw05.HeadRight", spec := "headRight", apart := false, narrowed := true }
def HeadRightUptoSaid : Prop := headRightUptoRow.holds Try.pinned (OpenSpec.upto headRightSpec)

/-- 'crossbarlaw05.HeadBack', WHERE WHAT IT READS IS OF BULK AT MOST 1048576: true; the input reads as it did. -/
def headBackUptoRow : OpenClaim := { program := "ytoijaooechdemaa", sum := "d20eeca0a57773abce27d1256b6650b0f18985c1492ecacd872d5547c13e25d9", func := "crossbar/crossbarlaw05.HeadBack", spec := "headBack", apart := false, narrowed := true }
def HeadBackUptoSaid : Prop := headBackUptoRow.holds Try.pinned (OpenSpec.upto headBackSpec)

/-- 'crossbarlaw05.HeadBits', WHERE WHAT IT READS IS OF BULK AT MOST 1048576: true; the input reads as it did. -/
def headBitsUptoRow : OpenClaim := { program := "ytoijaooechdemaa", sum := "d20eeca0a57773abce27d1256b6650b0f18985c1492ecacd872d5547c13e25d9", func := "crossbar/crossbarlaw05.HeadBits", spec := "headBits", apart := false, narrowed := true }
def HeadBitsUptoSaid : Prop := headBitsUptoRow.holds Try.pinned (OpenSpec.upto headBitsSpec)

/-- 'crossbarlaw01.OctetBack', WHERE WHAT IT READS IS OF BULK AT MOST 1048576: true; the input reads as it did. -/
def octetBackUptoRow : OpenClaim := { program := "ytoijaooechdemaa", sum := "d20eeca0a57773abce27d1256b6650b0f18985c1492ecacd872d5547c13e25d9", func := "crossbar/crossbarlaw01.OctetBack", spec := "octetBack", apart := false, narrowed := true }
def OctetBackUptoSaid : Prop := octetBackUptoRow.holds Try.pinned (OpenSpec.upto octetBackSpec)

end Rows
end Go.Proofs.Ytoijaooechdemaa
