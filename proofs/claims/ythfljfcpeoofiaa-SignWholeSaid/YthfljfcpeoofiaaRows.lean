/-
  No cell of these rows narrows 'for every input' (looked for: loops, veiled, ifaces, maps, wideKeys, modest, calm, conditions, laid).
  DERIVED. THE GIVEN ROWS OF THIS SEAT. 12 by the template 'for every input the law returns true; each argument reads behind the call as it read before'; 0 by the template 'total and deterministic' (their statements: YthfljfcpeoofiaaTotals.lean).
  GIVEN WITH THE SEED: the statements are not yours to turn. If you find one false, say at which input.
  Laid BY PROGRAM, IN A SANDBOX (cutbox-rows.mjs): the forced cells as the released guide's own fill.sh prints them over the translation 0aeceab5f189fae2… (all of the seat's roots in one cut). By AI agents, Wed Nov 11 2026. No macro, syntax, notation, axiom, sorry.
-/
import Derived.Test.YthfljfcpeoofiaaChecked
import GoSem.Claim
import GoSem.ClaimJoined
import GoSem.ClaimMapViews
import Derived.JoinedTies
import Derived.KernelRfl
namespace Go.Proofs.Ythfljfcpeoofiaa
/- THE CELL 'sum', in the pinned program and in every row, IS THE sha256 OF THE DUMP (.gsa) THAT YthfljfcpeoofiaaProg.lean LOADS. Nothing in Lean hashes anything: it is a label: what it is worth is what the hold of that sum in a sandbox is worth. -/
noncomputable def Try.pinned : Pinned := { name := "ythfljfcpeoofiaa", sum := "0aeceab5f189fae2c5562b577f71cc2f5acf73458fd057b30256112de189dad7", checked := Try.checked }
namespace Rows
def none {H : Type} : Left H := { results := [], args := [] }

/-- 'crossbarlaw18.ChunkRight': WHATEVER THE INPUT: true; the input reads as it did. -/
def chunkRightSpec : ChangeSpec := { name := "chunkRight", fn := fun _ => fun
  | [d1, d2, d3] => { results := [.lit (.bool true)], args := [d1, d2, d3] }
  | _ => none }
def chunkRightRow : OpenClaim := { program := "ythfljfcpeoofiaa", sum := "0aeceab5f189fae2c5562b577f71cc2f5acf73458fd057b30256112de189dad7", func := "crossbar/crossbarlaw18.ChunkRight", spec := "chunkRight", unfollowed := true, recurses := true, apart := false }
def ChunkRightSaid : Prop := chunkRightRow.holds Try.pinned (OpenSpec.ofChange chunkRightSpec)

/-- ITS FALSE NEIGHBOUR: 'it returns false'. Refute it at one input. -/
def chunkRightWrong : ChangeSpec := { name := "chunkRight", fn := fun _ => fun
  | [d1, d2, d3] => { results := [.lit (.bool false)], args := [d1, d2, d3] }
  | _ => none }
def ChunkRightWrongFalsely : Prop := chunkRightRow.holds Try.pinned (OpenSpec.ofChange chunkRightWrong)

/-- 'crossbarlaw18.ChunkBack': WHATEVER THE INPUT: true; the input reads as it did. -/
def chunkBackSpec : ChangeSpec := { name := "chunkBack", fn := fun _ => fun
  | [d1, d2, d3, d4] => { results := [.lit (.bool true)], args := [d1, d2, d3, d4] }
  | _ => none }
def chunkBackRow : OpenClaim := { program := "ythfljfcpeoofiaa", sum := "0aeceab5f189fae2c5562b577f71cc2f5acf73458fd057b30256112de189dad7", func := "crossbar/crossbarlaw18.ChunkBack", spec := "chunkBack", unfollowed := true, recurses := true, apart := false }
def ChunkBackSaid : Prop := chunkBackRow.holds Try.pinned (OpenSpec.ofChange chunkBackSpec)

/-- ITS FALSE NEIGHBOUR: 'it returns false'. Refute it at one input. -/
def chunkBackWrong : ChangeSpec := { name := "chunkBack", fn := fun _ => fun
  | [d1, d2, d3, d4] => { results := [.lit (.bool false)], args := [d1, d2, d3, d4] }
  | _ => none }
def ChunkBackWrongFalsely : Prop := chunkBackRow.holds Try.pinned (OpenSpec.ofChange chunkBackWrong)

/-- 'crossbarlaw18.ChunkFew': WHATEVER THE INPUT: true; the input reads as it did. -/
def chunkFewSpec : ChangeSpec := { name := "chunkFew", fn := fun _ => fun
  | [d1, d2, d3] => { results := [.lit (.bool true)], args := [d1, d2, d3] }
  | _ => none }
def chunkFewRow : OpenClaim := { program := "ythfljfcpeoofiaa", sum := "0aeceab5f189fae2c5562b577f71cc2f5acf73458fd057b30256112de189dad7", func := "crossbar/crossbarlaw18.ChunkFew", spec := "chunkFew", unfollowed := true, recurses := true, apart := false }
def ChunkFewSaid : Prop := chunkFewRow.holds Try.pinned (OpenSpec.ofChange chunkFewSpec)

/-- ITS FALSE NEIGHBOUR: 'it returns false'. Refute it at one input. -/
def chunkFewWrong : ChangeSpec := { name := "chunkFew", fn := fun _ => fun
  | [d1, d2, d3] => { results := [.lit (.bool false)], args := [d1, d2, d3] }
  | _ => none }
def ChunkFewWrongFalsely : Prop := chunkFewRow.holds Try.pinned (OpenSpec.ofChange chunkFewWrong)

/-- 'crossbarlaw12.ReportRight': WHATEVER THE INPUT: true; the input reads as it did. -/
def reportRightSpec : ChangeSpec := { name := "reportRight", fn := fun _ => fun
  | [d1, d2, d3, d4] => { results := [.lit (.bool true)], args := [d1, d2, d3, d4] }
  | _ => none }
def reportRightRow : OpenClaim := { program := "ythfljfcpeoofiaa", sum := "0aeceab5f189fae2c5562b577f71cc2f5acf73458fd057b30256112de189dad7", func := "crossbar/crossbarlaw12.ReportRight", spec := "reportRight", apart := false }
def ReportRightSaid : Prop := reportRightRow.holds Try.pinned (OpenSpec.ofChange reportRightSpec)

/-- ITS FALSE NEIGHBOUR: 'it returns false'. Refute it at one input. -/
def reportRightWrong : ChangeSpec := { name := "reportRight", fn := fun _ => fun
  | [d1, d2, d3, d4] => { results := [.lit (.bool false)], args := [d1, d2, d3, d4] }
  | _ => none }
def ReportRightWrongFalsely : Prop := reportRightRow.holds Try.pinned (OpenSpec.ofChange reportRightWrong)

/-- 'crossbarlaw12.ReportBack': WHATEVER THE INPUT: true; the input reads as it did. -/
def reportBackSpec : ChangeSpec := { name := "reportBack", fn := fun _ => fun
  | [d1, d2, d3, d4, d5] => { results := [.lit (.bool true)], args := [d1, d2, d3, d4, d5] }
  | _ => none }
def reportBackRow : OpenClaim := { program := "ythfljfcpeoofiaa", sum := "0aeceab5f189fae2c5562b577f71cc2f5acf73458fd057b30256112de189dad7", func := "crossbar/crossbarlaw12.ReportBack", spec := "reportBack", apart := false }
def ReportBackSaid : Prop := reportBackRow.holds Try.pinned (OpenSpec.ofChange reportBackSpec)

/-- ITS FALSE NEIGHBOUR: 'it returns false'. Refute it at one input. -/
def reportBackWrong : ChangeSpec := { name := "reportBack", fn := fun _ => fun
  | [d1, d2, d3, d4, d5] => { results := [.lit (.bool false)], args := [d1, d2, d3, d4, d5] }
  | _ => none }
def ReportBackWrongFalsely : Prop := reportBackRow.holds Try.pinned (OpenSpec.ofChange reportBackWrong)

/-- 'crossbarlaw12.ReportBlocks': WHATEVER THE INPUT: true; the input reads as it did. -/
def reportBlocksSpec : ChangeSpec := { name := "reportBlocks", fn := fun _ => fun
  | [d1, d2, d3] => { results := [.lit (.bool true)], args := [d1, d2, d3] }
  | _ => none }
def reportBlocksRow : OpenClaim := { program := "ythfljfcpeoofiaa", sum := "0aeceab5f189fae2c5562b577f71cc2f5acf73458fd057b30256112de189dad7", func := "crossbar/crossbarlaw12.ReportBlocks", spec := "reportBlocks", apart := false }
def ReportBlocksSaid : Prop := reportBlocksRow.holds Try.pinned (OpenSpec.ofChange reportBlocksSpec)

/-- ITS FALSE NEIGHBOUR: 'it returns false'. Refute it at one input. -/
def reportBlocksWrong : ChangeSpec := { name := "reportBlocks", fn := fun _ => fun
  | [d1, d2, d3] => { results := [.lit (.bool false)], args := [d1, d2, d3] }
  | _ => none }
def ReportBlocksWrongFalsely : Prop := reportBlocksRow.holds Try.pinned (OpenSpec.ofChange reportBlocksWrong)

/-- 'crossbarlaw09.SignRight': WHATEVER THE INPUT: true; the input reads as it did. -/
def signRightSpec : ChangeSpec := { name := "signRight", fn := fun _ => fun
  | [d1, d2, d3] => { results := [.lit (.bool true)], args := [d1, d2, d3] }
  | _ => none }
def signRightRow : OpenClaim := { program := "ythfljfcpeoofiaa", sum := "0aeceab5f189fae2c5562b577f71cc2f5acf73458fd057b30256112de189dad7", func := "crossbar/crossbarlaw09.SignRight", spec := "signRight", unfollowed := true, recurses := true, apart := false }
def SignRightSaid : Prop := signRightRow.holds Try.pinned (OpenSpec.ofChange signRightSpec)

/-- ITS FALSE NEIGHBOUR: 'it returns false'. Refute it at one input. -/
def signRightWrong : ChangeSpec := { name := "signRight", fn := fun _ => fun
  | [d1, d2, d3] => { results := [.lit (.bool false)], args := [d1, d2, d3] }
  | _ => none }
def SignRightWrongFalsely : Prop := signRightRow.holds Try.pinned (OpenSpec.ofChange signRightWrong)

/-- 'crossbarlaw09.SignBack': WHATEVER THE INPUT: true; the input reads as it did. -/
def signBackSpec : ChangeSpec := { name := "signBack", fn := fun _ => fun
  | [d1, d2, d3, d4] => { results := [.lit (.bool true)], args := [d1, d2, d3, d4] }
  | _ => none }
def signBackRow : OpenClaim := { program := "ythfljfcpeoofiaa", sum := "0aeceab5f189fae2c5562b577f71cc2f5acf73458fd057b30256112de189dad7", func := "crossbar/crossbarlaw09.SignBack", spec := "signBack", unfollowed := true, recurses := true, apart := false }
def SignBackSaid : Prop := signBackRow.holds Try.pinned (OpenSpec.ofChange signBackSpec)

/-- ITS FALSE NEIGHBOUR: 'it returns false'. Refute it at one input. -/
def signBackWrong : ChangeSpec := { name := "signBack", fn := fun _ => fun
  | [d1, d2, d3, d4] => { results := [.lit (.bool false)], args := [d1, d2, d3, d4] }
  | _ => none }
def SignBackWrongFalsely : Prop := signBackRow.holds Try.pinned (OpenSpec.ofChange signBackWrong)

/-- 'crossbarlaw09.SignWhole': WHATEVER THE INPUT: true; the input reads as it did. -/
def signWholeSpec : ChangeSpec := { name := "signWhole", fn := fun _ => fun
  | [d1, d2, d3, d4] => { results := [.lit (.bool true)], args := [d1, d2, d3, d4] }
  | _ => none }
def signWholeRow : OpenClaim := { program := "ythfljfcpeoofiaa", sum := "0aeceab5f189fae2c5562b577f71cc2f5acf73458fd057b30256112de189dad7", func := "crossbar/crossbarlaw09.SignWhole", spec := "signWhole", unfollowed := true, recurses := true, apart := false }
def SignWholeSaid : Prop := signWholeRow.holds Try.pinned (OpenSpec.ofChange signWholeSpec)

/-- ITS FALSE NEIGHBOUR: 'it returns false'. Refute it at one input. -/
def signWholeWrong : ChangeSpec := { name := "signWhole", fn := fun _ => fun
  | [d1, d2, d3, d4] => { results := [.lit (.bool false)], args := [d1, d2, d3, d4] }
  | _ => none }
def SignWholeWrongFalsely : Prop := signWholeRow.holds Try.pinned (OpenSpec.ofChange signWholeWrong)

/-- 'crossbarlaw23.Vp8Right': WHATEVER THE INPUT: true; the input reads as it did. -/
def vp8RightSpec : ChangeSpec := { name := "vp8Right", fn := fun _ => fun
  | [d1, d2, d3, d4, d5] => { results := [.lit (.bool true)], args := [d1, d2, d3, d4, d5] }
  | _ => none }
def vp8RightRow : OpenClaim := { program := "ythfljfcpeoofiaa", sum := "0aeceab5f189fae2c5562b577f71cc2f5acf73458fd057b30256112de189dad7", func := "crossbar/crossbarlaw23.Vp8Right", spec := "vp8Right", apart := false }
def Vp8RightSaid : Prop := vp8RightRow.holds Try.pinned (OpenSpec.ofChange vp8RightSpec)

/-- ITS FALSE NEIGHBOUR: 'it returns false'. Refute it at one input. -/
def vp8RightWrong : ChangeSpec := { name := "vp8Right", fn := fun _ => fun
  | [d1, d2, d3, d4, d5] => { results := [.lit (.bool false)], args := [d1, d2, d3, d4, d5] }
  | _ => none }
def Vp8RightWrongFalsely : Prop := vp8RightRow.holds Try.pinned (OpenSpec.ofChange vp8RightWrong)

/-- 'crossbarlaw23.Vp8Back': WHATEVER THE INPUT: true; the input reads as it did. -/
def vp8BackSpec : ChangeSpec := { name := "vp8Back", fn := fun _ => fun
  | [d1, d2, d3, d4] => { results := [.lit (.bool true)], args := [d1, d2, d3, d4] }
  | _ => none }
def vp8BackRow : OpenClaim := { program := "ythfljfcpeoofiaa", sum := "0aeceab5f189fae2c5562b577f71cc2f5acf73458fd057b30256112de189dad7", func := "crossbar/crossbarlaw23.Vp8Back", spec := "vp8Back", apart := false }
def Vp8BackSaid : Prop := vp8BackRow.holds Try.pinned (OpenSpec.ofChange vp8BackSpec)

/-- ITS FALSE NEIGHBOUR: 'it returns false'. Refute it at one input. -/
def vp8BackWrong : ChangeSpec := { name := "vp8Back", fn := fun _ => fun
  | [d1, d2, d3, d4] => { results := [.lit (.bool false)], args := [d1, d2, d3, d4] }
  | _ => none }
def Vp8BackWrongFalsely : Prop := vp8BackRow.holds Try.pinned (OpenSpec.ofChange vp8BackWrong)

/-- 'crossbarlaw23.Vp8Set': WHATEVER THE INPUT: true; the input reads as it did. -/
def vp8SetSpec : ChangeSpec := { name := "vp8Set", fn := fun _ => fun
  | [d1, d2, d3, d4] => { results := [.lit (.bool true)], args := [d1, d2, d3, d4] }
  | _ => none }
def vp8SetRow : OpenClaim := { program := "ythfljfcpeoofiaa", sum := "0aeceab5f189fae2c5562b577f71cc2f5acf73458fd057b30256112de189dad7", func := "crossbar/crossbarlaw23.Vp8Set", spec := "vp8Set", apart := false }
def Vp8SetSaid : Prop := vp8SetRow.holds Try.pinned (OpenSpec.ofChange vp8SetSpec)

/-- ITS FALSE NEIGHBOUR: 'it returns false'. Refute it at one input. -/
def vp8SetWrong : ChangeSpec := { name := "vp8Set", fn := fun _ => fun
  | [d1, d2, d3, d4] => { results := [.lit (.bool false)], args := [d1, d2, d3, d4] }
  | _ => none }
def Vp8SetWrongFalsely : Prop := vp8SetRow.holds Try.pinned (OpenSpec.ofChange vp8SetWrong)

/- THE SECOND FORM. 'bulk': how many values and letters a reading holds, each counted each time it is reached (what is shared counts as often as it is met; a slice's spare places count too). A statement '..UptoSaid' is the law's where the arguments, and the package variables that the reading takes, are together of bulk at most 1048576: NARROWER than '..Said'. Prove '..Said' where nothing that the law and all that it calls make is longer than what came in: it says more and counts as full. Else prove '..UptoSaid'. A law counts once. -/
mutual
def uptoBulk {H : Type} : DataW H → Nat
  | .lit (.string bytes) => bytes.length + 1
  | .lit _ => 1
  | .nil => 1
  | .ptr d => uptoBulk d + 1
  | .slice elems spare => uptoBulkAll elems + uptoBulkAll spare + 1
  | .agg parts => uptoBulkAll parts + 1
  | .iface _ d => uptoBulk d + 1
  | .map entries => uptoBulkEntries entries + 1
  | .held _ => 1
def uptoBulkAll {H : Type} : List (DataW H) → Nat
  | [] => 0
  | d :: r => uptoBulk d + uptoBulkAll r
def uptoBulkEntries {H : Type} : List (Lit × DataW H) → Nat
  | [] => 0
  | x :: r => uptoBulkEntry x + uptoBulkEntries r
def uptoBulkEntry {H : Type} : Lit × DataW H → Nat
  | (.string bytes, d) => bytes.length + uptoBulk d + 1
  | (_, d) => uptoBulk d + 1
 end
def uptoSmall : (H : Type) → List (DataW H) → Bool := fun _ ds => decide (uptoBulkAll ds ≤ 1048576)
def OpenSpec.upto (s : _root_.Go.ChangeSpec) : _root_.Go.OpenSpec := { _root_.Go.OpenSpec.ofChange s with cond := some uptoSmall }

/-- 'crossbarlaw18.ChunkRight', WHERE WHAT IT READS IS OF BULK AT MOST 1048576: true; the input reads as it did. -/
def chunkRightUptoRow : OpenClaim := { program := "ythfljfcpeoofiaa", sum := "0aeceab5f189fae2c5562b577f71cc2f5acf73458fd057b30256112de189dad7", func := "crossbar/crossbarlaw18.ChunkRight", spec := "chunkRight", unfollowed := true, recurses := true, apart := false, narrowed := true }
def ChunkRightUptoSaid : Prop := chunkRightUptoRow.holds Try.pinned (OpenSpec.upto chunkRightSpec)

/-- 'crossbarlaw18.ChunkBack', WHERE WHAT IT READS IS OF BULK AT MOST 1048576: true; the input reads as it did. -/
def chunkBackUptoRow : OpenClaim := { program := "ythfljfcpeoofiaa", sum := "0aeceab5f189fae2c5562b577f71cc2f5acf73458fd057b30256112de189dad7", func := "crossbar/crossbarlaw18.ChunkBack", spec := "chunkBack", unfollowed := true, recurses := true, apart := false, narrowed := true }
def ChunkBackUptoSaid : Prop := chunkBackUptoRow.holds Try.pinned (OpenSpec.upto chunkBackSpec)

/-- 'crossbarlaw18.ChunkFew', WHERE WHAT IT READS IS OF BULK AT MOST 1048576: true; the input reads as it did. -/
def chunkFewUptoRow : OpenClaim := { program := "ythfljfcpeoofiaa", sum := "0aeceab5f189fae2c5562b577f71cc2f5acf73458fd057b30256112de189dad7", func := "crossbar/crossbarlaw18.ChunkFew", spec := "chunkFew", unfollowed := true, recurses := true, apart := false, narrowed := true }
def ChunkFewUptoSaid : Prop := chunkFewUptoRow.holds Try.pinned (OpenSpec.upto chunkFewSpec)

/-- 'crossbarlaw12.ReportRight', WHERE WHAT IT READS IS OF BULK AT MOST 1048576: true; the input reads as it did. -/
def reportRightUptoRow : OpenClaim := { program := "ythfljfcpeoofiaa", sum := "0aeceab5f189fae2c5562b577f71cc2f5acf73458fd057b30256112de189dad7", func := "crossbar/crossbarlaw12.ReportRight", spec := "reportRight", apart := false, narrowed := true }
def ReportRightUptoSaid : Prop := reportRightUptoRow.holds Try.pinned (OpenSpec.upto reportRightSpec)

/-- 'crossbarlaw12.ReportBack', WHERE WHAT IT READS IS OF BULK AT MOST 1048576: true; the input reads as it did. -/
def reportBackUptoRow : OpenClaim := { program := "ythfljfcpeoofiaa", sum := "0aeceab5f189fae2c5562b577f71cc2f5acf73458fd057b30256112de189dad7", func := "crossbar/crossbarlaw12.ReportBack", spec := "reportBack", apart := false, narrowed := true }
def ReportBackUptoSaid : Prop := reportBackUptoRow.holds Try.pinned (OpenSpec.upto reportBackSpec)

/-- 'crossbarlaw12.ReportBlocks', WHERE WHAT IT READS IS OF BULK AT MOST 1048576: true; the input reads as it did. -/
def reportBlocksUptoRow : OpenClaim := { program := "ythfljfcpeoofiaa", sum := "0aeceab5f189fae2c5562b577f71cc2f5acf73458fd057b30256112de189dad7", func := "crossbar/crossbarlaw12.ReportBlocks", spec := "reportBlocks", apart := false, narrowed := true }
def ReportBlocksUptoSaid : Prop := reportBlocksUptoRow.holds Try.pinned (OpenSpec.upto reportBlocksSpec)

/-- 'crossbarlaw09.SignRight', WHERE WHAT IT READS IS OF BULK AT MOST 1048576: true; the input reads as it did. -/
def signRightUptoRow : OpenClaim := { program := "ythfljfcpeoofiaa", sum := "0aeceab5f189fae2c5562b577f71cc2f5acf73458fd057b30256112de189dad7", func := "crossbar/crossbarlaw09.SignRight", spec := "signRight", unfollowed := true, recurses := true, apart := false, narrowed := true }
def SignRightUptoSaid : Prop := signRightUptoRow.holds Try.pinned (OpenSpec.upto signRightSpec)

/-- 'crossbarlaw09.SignBack', WHERE WHAT IT READS IS OF BULK AT MOST 1048576: true; the input reads as it did. -/
def signBackUptoRow : OpenClaim := { program := "ythfljfcpeoofiaa", sum := "0aeceab5f189fae2c5562b577f71cc2f5acf73458fd057b30256112de189dad7", func := "crossbar/crossbarlaw09.SignBack", spec := "signBack", unfollowed := true, recurses := true, apart := false, narrowed := true }
def SignBackUptoSaid : Prop := signBackUptoRow.holds Try.pinned (OpenSpec.upto signBackSpec)

/-- 'crossbarlaw09.SignWhole', WHERE WHAT IT READS IS OF BULK AT MOST 1048576: true; the input reads as it did. -/
def signWholeUptoRow : OpenClaim := { program := "ythfljfcpeoofiaa", sum := "0aeceab5f189fae2c5562b577f71cc2f5acf73458fd057b30256112de189dad7", func := "crossbar/crossbarlaw09.SignWhole", spec := "signWhole", unfollowed := true, recurses := true, apart := false, narrowed := true }
def SignWholeUptoSaid : Prop := signWholeUptoRow.holds Try.pinned (OpenSpec.upto signWholeSpec)

/-- 'crossbarlaw23.Vp8Right', WHERE WHAT IT READS IS OF BULK AT MOST 1048576: true; the input reads as it did. -/
def vp8RightUptoRow : OpenClaim := { program := "ythfljfcpeoofiaa", sum := "0aeceab5f189fae2c5562b577f71cc2f5acf73458fd057b30256112de189dad7", func := "crossbar/crossbarlaw23.Vp8Right", spec := "vp8Right", apart := false, narrowed := true }
def Vp8RightUptoSaid : Prop := vp8RightUptoRow.holds Try.pinned (OpenSpec.upto vp8RightSpec)

/-- 'crossbarlaw23.Vp8Back', WHERE WHAT IT READS IS OF BULK AT MOST 1048576: true; the input reads as it did. -/
def vp8BackUptoRow : OpenClaim := { program := "ythfljfcpeoofiaa", sum := "0aeceab5f189fae2c5562b577f71cc2f5acf73458fd057b30256112de189dad7", func := "crossbar/crossbarlaw23.Vp8Back", spec := "vp8Back", apart := false, narrowed := true }
def Vp8BackUptoSaid : Prop := vp8BackUptoRow.holds Try.pinned (OpenSpec.upto vp8BackSpec)

/-- 'crossbarlaw23.Vp8Set', WHERE WHAT IT READS IS OF BULK AT MOST 1048576: true; the input reads as it did. -/
def vp8SetUptoRow : OpenClaim := { program := "ythfljfcpeoofiaa", sum := "0aeceab5f189fae2c5562b577f71cc2f5acf73458fd057b30256112de189dad7", func := "crossbar/crossbarlaw23.Vp8Set", spec := "vp8Set", apart := false, narrowed := true }
def Vp8SetUptoSaid : Prop := vp8SetUptoRow.holds Try.pinned (OpenSpec.upto vp8SetSpec)

end Rows
end Go.Proofs.Ythfljfcpeoofiaa
