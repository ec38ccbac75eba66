/-
  Contracts of functions of the program, each out of its condition or by a walk, and plain lemmas.
-/
import Derived.Test.YtaehhpempnelhaaGreatDoorProg
import Derived.Shelf.Strings.BuilderRune
import Derived.Test.YtaehhpempnelhaaGreatDoorQBase3
import Derived.Shelf.Small.Strs
import Derived.Shelf.Strings.Search1
import Derived.Shelf.Unicode.Decode
import Derived.Shelf.Unicode.DecodeSlow
import Derived.Shelf.Unicode.DecodeAny
import Derived.Test.YtaehhpempnelhaaGreatDoorChecked
import Derived.Test.YtaehhpempnelhaaGreatDoorQBase1
import Derived.Test.YtaehhpempnelhaaGreatDoorQVcs1
import Derived.Lib.TrimUEq
set_option maxRecDepth 100000
namespace Go.Proofs
open Go.Shelf Go.RowKit
def Tryz.bren:Go.Shelf.Ren:=⟨fun|167=>126|168=>129|169=>105|240=>130|242=>168|276=>169|278=>216|n=>n,fun|70=>192|72=>194|37=>22|5=>5|9=>9|4=>4|164=>310|3=>3|0=>0|20=>20|21=>21|51=>24|46=>98|80=>186|75=>197|127=>242|n=>n,fun|n=>n⟩
theorem Tryz.laysB167:Go.Proofs.Lays.n167 Tryz.prog Tryz.bren:= {
 mixed:=by kernel_rfl
 f167:=Tryz.func126.trans (congrArg some (by kernel_rfl))
 f240:=Tryz.func130.trans (congrArg some (by kernel_rfl))
 f276:=Tryz.func169.trans (congrArg some (by kernel_rfl))
 t0:=Tryz.underlying0
 a0:=Tryz.isAgg0
 z0:=Tryz.sizeOf0
 v0:=Tryz.zeroValue0
 t4:=Tryz.underlying4
 a4:=Tryz.isAgg4
 z4:=Tryz.sizeOf4
 v4:=Tryz.zeroValue4
 t5:=Tryz.underlying5
 a5:=Tryz.isAgg5
 z5:=Tryz.sizeOf5
 v5:=Tryz.zeroValue5
 t9:=Tryz.underlying9
 a9:=Tryz.isAgg9
 z9:=Tryz.sizeOf9
 v9:=Tryz.zeroValue9
 t20:=Tryz.underlying20
 a20:=Tryz.isAgg20
 z20:=Tryz.sizeOf20
 v20:=Tryz.zeroValue20
 t37:=Tryz.underlying22
 a37:=Tryz.isAgg22
 z37:=Tryz.sizeOf22
 v37:=Tryz.zeroValue22
 t70:=Tryz.underlying192
 a70:=Tryz.isAgg192
 z70:=Tryz.sizeOf192
 v70:=Tryz.zeroValue192
 t72:=Tryz.underlying194
 a72:=Tryz.isAgg194
 z72:=Tryz.sizeOf194
 v72:=Tryz.zeroValue194
 t75:=Tryz.underlying197
 a75:=Tryz.isAgg197
 z75:=Tryz.sizeOf197
 v75:=Tryz.zeroValue197
 t164:=Tryz.underlying310
 a164:=Tryz.isAgg310
 z164:=Tryz.sizeOf310
 v164:=Tryz.zeroValue310}
theorem Tryz.laysB168:Go.Proofs.Lays.n168 Tryz.prog Tryz.bren:= {
 mixed:=by kernel_rfl
 f168:=Tryz.func129.trans (congrArg some (by kernel_rfl))
 f240:=Tryz.func130.trans (congrArg some (by kernel_rfl))
 f242:=Tryz.func168.trans (congrArg some (by kernel_rfl))
 f276:=Tryz.func169.trans (congrArg some (by kernel_rfl))
 f278:=Tryz.func216.trans (congrArg some (by kernel_rfl))
 t0:=Tryz.underlying0
 a0:=Tryz.isAgg0
 z0:=Tryz.sizeOf0
 v0:=Tryz.zeroValue0
 t3:=Tryz.underlying3
 a3:=Tryz.isAgg3
 z3:=Tryz.sizeOf3
 v3:=Tryz.zeroValue3
 t4:=Tryz.underlying4
 a4:=Tryz.isAgg4
 z4:=Tryz.sizeOf4
 v4:=Tryz.zeroValue4
 t5:=Tryz.underlying5
 a5:=Tryz.isAgg5
 z5:=Tryz.sizeOf5
 v5:=Tryz.zeroValue5
 t9:=Tryz.underlying9
 a9:=Tryz.isAgg9
 z9:=Tryz.sizeOf9
 v9:=Tryz.zeroValue9
 t20:=Tryz.underlying20
 a20:=Tryz.isAgg20
 z20:=Tryz.sizeOf20
 v20:=Tryz.zeroValue20
 t21:=Tryz.underlying21
 a21:=Tryz.isAgg21
 z21:=Tryz.sizeOf21
 v21:=Tryz.zeroValue21
 t37:=Tryz.underlying22
 a37:=Tryz.isAgg22
 z37:=Tryz.sizeOf22
 v37:=Tryz.zeroValue22
 t46:=Tryz.underlying98
 a46:=Tryz.isAgg98
 z46:=Tryz.sizeOf98
 v46:=Tryz.zeroValue98
 t51:=Tryz.underlying24
 a51:=Tryz.isAgg24
 z51:=Tryz.sizeOf24
 v51:=Tryz.zeroValue24
 t70:=Tryz.underlying192
 a70:=Tryz.isAgg192
 z70:=Tryz.sizeOf192
 v70:=Tryz.zeroValue192
 t72:=Tryz.underlying194
 a72:=Tryz.isAgg194
 z72:=Tryz.sizeOf194
 v72:=Tryz.zeroValue194
 t75:=Tryz.underlying197
 a75:=Tryz.isAgg197
 z75:=Tryz.sizeOf197
 v75:=Tryz.zeroValue197
 t164:=Tryz.underlying310
 a164:=Tryz.isAgg310
 z164:=Tryz.sizeOf310
 v164:=Tryz.zeroValue310}
theorem Tryz.laysB169:Go.Proofs.Lays.n169 Tryz.prog Tryz.bren:= {
 mixed:=by kernel_rfl
 f169:=Tryz.func105.trans (congrArg some (by kernel_rfl))
 t0:=Tryz.underlying0
 a0:=Tryz.isAgg0
 z0:=Tryz.sizeOf0
 v0:=Tryz.zeroValue0
 t3:=Tryz.underlying3
 a3:=Tryz.isAgg3
 z3:=Tryz.sizeOf3
 v3:=Tryz.zeroValue3
 t9:=Tryz.underlying9
 a9:=Tryz.isAgg9
 z9:=Tryz.sizeOf9
 v9:=Tryz.zeroValue9
 t37:=Tryz.underlying22
 a37:=Tryz.isAgg22
 z37:=Tryz.sizeOf22
 v37:=Tryz.zeroValue22
 t70:=Tryz.underlying192
 a70:=Tryz.isAgg192
 z70:=Tryz.sizeOf192
 v70:=Tryz.zeroValue192
 t72:=Tryz.underlying194
 a72:=Tryz.isAgg194
 z72:=Tryz.sizeOf194
 v72:=Tryz.zeroValue194
 t127:=Tryz.underlying242
 a127:=Tryz.isAgg242
 z127:=Tryz.sizeOf242
 v127:=Tryz.zeroValue242}
theorem Tryz.bextra:Builder.Extra Tryz.prog Tryz.bren:= {
 sizeBuilder:=by kernel_rfl
 liesBuilder:=by kernel_rfl
 t5:=Tryz.underlying5
 a5:=Tryz.isAgg5
 z5:=Tryz.sizeOf5
 v5:=Tryz.zeroValue5
 infoByte:=by kernel_rfl
 cellsByte:=by kernel_rfl
 sizeByte:=by kernel_rfl
 neB5:=by decide}
theorem Tryz.WriteByte_k(B b:Nat)(bs:List Value)(c:Int)(w:World)(h:Lib.IsBuilderF 194 5 B b bs w)(hlen:bs.length+1<=140737488355328)(hBw:B<=w.heap.size):
  Calls Tryz.prog 126 #[.pointer (some ⟨b,0,none⟩),.int .u8 c] w fun e w'=>e= .returned .nilIface/\(Lib.BuilderAtF 194 5 B b (.pointer (some ⟨b,0,none⟩)) (bs++ [.int .u8 c]) w'/\Below B w w'/\Lib.OthersKept 5 (some b) w w'):=
 Any.Builder_WriteByte_k Tryz.laysB167 Tryz.bextra B b bs c w h hlen hBw
theorem Tryz.WriteRune_k(B b:Nat)(bs:List Value)(r:Int)(hr0: -2147483648<=r)(hr1:r<=2147483647)(w:World)(h:Lib.IsBuilderF 194 5 B b bs w)(hlen:bs.length+4<=140737488355328)(hBw:B<=w.heap.size):
  Calls Tryz.prog 129 #[.pointer (some ⟨b,0,none⟩),.int .i32 r] w fun e w'=>e= .returned (.tuple #[.int .i64 (Lib.runeCells r).length,.nilIface])/\(Lib.BuilderAtF 194 5 B b (.pointer (some ⟨b,0,none⟩)) (bs++Lib.runeCells r) w'/\Below B w w'/\Lib.OthersKept 5 (some b) w w'):=
 Any.Builder_WriteRune_k Tryz.laysB168 Tryz.bextra B b bs r hr0 hr1 w h hlen hBw
theorem Tryz.String_k(B b:Nat)(l:List UInt8)(w:World)(h:Lib.IsBuilderF 194 5 B b (Lib.byteCells l) w)(hBw:B<=w.heap.size):
  Calls Tryz.prog 105 #[.pointer (some ⟨b,0,none⟩)] w fun e w'=>e= .returned (.string ⟨l.toArray⟩)/\(Lib.IsBuilderF 194 5 B b (Lib.byteCells l) w'/\Below B w w'/\Lib.OthersKept 5 (some b) w w'):=
 Any.Builder_String_any_k Tryz.laysB169 Tryz.bextra B b l w h hBw
#print axioms Tryz.WriteRune_k
end Go.Proofs
namespace Go.Vc
abbrev aQ:Sh:= .sl (.int .u8)
abbrev I64:Sh:= .int .i64
abbrev I32:Sh:= .int .i32
abbrev U8:Sh:= .int .u8
abbrev U16:Sh:= .int .u16
abbrev U32:Sh:= .int .u32
abbrev U64:Sh:= .int .u64
end Go.Vc
namespace Go.Proofs
open Go.Shelf
def Tryz.lays137_ren:Go.Shelf.Ren:=⟨fun|137=>238|217=>247|266=>250|n=>n,fun|9=>9|5=>5|3=>3|n=>n,fun|n=>n⟩
theorem Tryz.lays137:Go.Proofs.Lays.n137 Tryz.prog Tryz.lays137_ren:= {
 mixed:=by kernel_rfl
 f137:=Tryz.func238.trans (congrArg some (by kernel_rfl))
 f217:=Tryz.func247.trans (congrArg some (by kernel_rfl))
 f266:=Tryz.func250.trans (congrArg some (by kernel_rfl))
 t3:=Tryz.underlying3
 a3:=Tryz.isAgg3
 z3:=Tryz.sizeOf3
 v3:=Tryz.zeroValue3
 t5:=Tryz.underlying5
 a5:=Tryz.isAgg5
 z5:=Tryz.sizeOf5
 v5:=Tryz.zeroValue5
 t9:=Tryz.underlying9
 a9:=Tryz.isAgg9
 z9:=Tryz.sizeOf9
 v9:=Tryz.zeroValue9}
open Go.RowKit in
theorem Tryz.strings_IndexByte(s:ByteArray)(c:Int)(w:World):
  Calls Tryz.prog 238 #[.string s,.int .u8 c] w fun e w'=>e= .returned (.int .i64 (Lib.indexByte s.data.toList c.toNat.toUInt8))/\w'=w:=Any.strings_IndexByte Tryz.lays137 s c w
def Tryz.lays197_ren:Go.Shelf.Ren:=⟨fun|197=>167|260=>215|n=>n,fun|9=>9|21=>21|3=>3|4=>4|5=>5|105=>307|119=>383|0=>0|46=>98|139=>386|138=>385|n=>n,fun|3=>4|4=>5|n=>n⟩
theorem Tryz.lays197:Go.Proofs.Lays.n197 Tryz.prog Tryz.lays197_ren:= {
 mixed:=by kernel_rfl
 f197:=Tryz.func167.trans (congrArg some (by kernel_rfl))
 f260:=Tryz.func215.trans (congrArg some (by kernel_rfl))
 t0:=Tryz.underlying0
 a0:=Tryz.isAgg0
 z0:=Tryz.sizeOf0
 v0:=Tryz.zeroValue0
 t3:=Tryz.underlying3
 a3:=Tryz.isAgg3
 z3:=Tryz.sizeOf3
 v3:=Tryz.zeroValue3
 t4:=Tryz.underlying4
 a4:=Tryz.isAgg4
 z4:=Tryz.sizeOf4
 v4:=Tryz.zeroValue4
 t5:=Tryz.underlying5
 a5:=Tryz.isAgg5
 z5:=Tryz.sizeOf5
 v5:=Tryz.zeroValue5
 t9:=Tryz.underlying9
 a9:=Tryz.isAgg9
 z9:=Tryz.sizeOf9
 v9:=Tryz.zeroValue9
 t21:=Tryz.underlying21
 a21:=Tryz.isAgg21
 z21:=Tryz.sizeOf21
 v21:=Tryz.zeroValue21
 t46:=Tryz.underlying98
 a46:=Tryz.isAgg98
 z46:=Tryz.sizeOf98
 v46:=Tryz.zeroValue98
 t105:=Tryz.underlying307
 a105:=Tryz.isAgg307
 z105:=Tryz.sizeOf307
 v105:=Tryz.zeroValue307
 t119:=Tryz.underlying383
 a119:=Tryz.isAgg383
 z119:=Tryz.sizeOf383
 t138:=Tryz.underlying385
 a138:=Tryz.isAgg385
 z138:=Tryz.sizeOf385
 v138:=Tryz.zeroValue385
 t139:=Tryz.underlying386
 a139:=Tryz.isAgg386
 z139:=Tryz.sizeOf386
 v139:=Tryz.zeroValue386
 g3:=by kernel_rfl
 g4:=by kernel_rfl}
def Tryz.lays260_ren:Go.Shelf.Ren:=⟨fun|260=>215|n=>n,fun|9=>9|21=>21|3=>3|4=>4|5=>5|119=>383|0=>0|46=>98|139=>386|138=>385|n=>n,fun|3=>4|4=>5|n=>n⟩
theorem Tryz.lays260:Go.Proofs.Lays.n260 Tryz.prog Tryz.lays260_ren:= {
 mixed:=by kernel_rfl
 f260:=Tryz.func215.trans (congrArg some (by kernel_rfl))
 t0:=Tryz.underlying0
 a0:=Tryz.isAgg0
 z0:=Tryz.sizeOf0
 v0:=Tryz.zeroValue0
 t3:=Tryz.underlying3
 a3:=Tryz.isAgg3
 z3:=Tryz.sizeOf3
 v3:=Tryz.zeroValue3
 t4:=Tryz.underlying4
 a4:=Tryz.isAgg4
 z4:=Tryz.sizeOf4
 v4:=Tryz.zeroValue4
 t5:=Tryz.underlying5
 a5:=Tryz.isAgg5
 z5:=Tryz.sizeOf5
 v5:=Tryz.zeroValue5
 t9:=Tryz.underlying9
 a9:=Tryz.isAgg9
 z9:=Tryz.sizeOf9
 v9:=Tryz.zeroValue9
 t21:=Tryz.underlying21
 a21:=Tryz.isAgg21
 z21:=Tryz.sizeOf21
 v21:=Tryz.zeroValue21
 t46:=Tryz.underlying98
 a46:=Tryz.isAgg98
 z46:=Tryz.sizeOf98
 v46:=Tryz.zeroValue98
 t119:=Tryz.underlying383
 a119:=Tryz.isAgg383
 z119:=Tryz.sizeOf383
 t138:=Tryz.underlying385
 a138:=Tryz.isAgg385
 z138:=Tryz.sizeOf385
 v138:=Tryz.zeroValue385
 t139:=Tryz.underlying386
 a139:=Tryz.isAgg386
 z139:=Tryz.sizeOf386
 v139:=Tryz.zeroValue386
 g3:=by kernel_rfl
 g4:=by kernel_rfl}
open Go.RowKit Go.Lib in
theorem Tryz.utf8_DecodeRuneInString(s:ByteArray)(w:World)(hT:Lib.Utf8Tabs 4 5 w):
  Calls Tryz.prog 167 #[.string s] w fun e w'=>e= .returned (.tuple #[.int .i32 (Lib.decodeGo s).1,.int .i64 (Lib.decodeGo s).2])/\Below w.heap.size w w':=Any.utf8_DecodeRuneInString Tryz.lays197 s w hT
end Go.Proofs
namespace Go.Vc
open Go Go.Proofs Go.Plain
theorem YX:qN Tryz.prog "unicode/utf8.first" =some 4:=by kernel_rfl
theorem X7:qN Tryz.prog "unicode/utf8.acceptRanges" =some 5:=by kernel_rfl
theorem aap:∀c:Fin 256,Ou c.1=Lib.firstT c.1:=by decide+kernel
theorem MW:∀i:Fin 16,Nt[2*i.1]?=some (Lib.accLo i.1:Int)/\Nt[2*i.1+1]?=some (Lib.accHi i.1:Int):=by decide+kernel
theorem apa{w:World}(h:KW Tryz.prog w):Lib.Utf8Tabs 4 5 w:=by
 have h1:=h.1 (_,_) (List.mem_cons_self) 4 YX;have h2:=h.1 (_,_) (List.mem_cons_of_mem _ List.mem_cons_self) 5 X7;refine ⟨fun c hc=>?_,fun i hi=>⟨?_,?_⟩⟩
 .have:=h1 c (.int .u8 (Ou c)) (by simp[hc]);rw[iI] at this;rw[this,aap ⟨c,hc⟩]
 .have:=h2 (2*i) (.int .u8 (Lib.accLo i)) (by rw[kM,(MW ⟨i,hi⟩).1];rfl);rwa[iI] at this
 .have:=h2 (2*i+1) (.int .u8 (Lib.accHi i)) (by rw[kM,(MW ⟨i,hi⟩).2];rfl);rwa[iI] at this
theorem akQ{s:List UInt8}(h:s≠[]):Lib.decodeGo ⟨s.toArray⟩=Lib.decodeL s:=by
 unfold Lib.decodeGo Lib.decodeL;rw[if_neg (by cases s with|nil=>exact absurd rfl h|cons x t=>simp[ByteArray.size])]
abbrev ae9:FuncId:=167
theorem amo(s:List UInt8)(hs:s≠[]):PC Tryz.prog ae9 [(.str,.str s)] [(.int .i32,.int ((Lib.decodeL s).1:Nat)),(.int .i64,.int ((Lib.decodeL s).2:Nat))]:=by
 refine PC.oF (by decide) ⟨⟨_,Tryz.func167,by kernel_rfl,by kernel_rfl⟩,fun w N vs aL hrd=>?_⟩;obtain ⟨v,r,rfl,⟨us,hu,rfl⟩,hr⟩:=hrd;simp only[dH] at hr;subst hr;simp only[Rd] at hu;subst hu;have hc:=Tryz.utf8_DecodeRuneInString ⟨s.toArray⟩ w (apa aL);rw[akQ hs] at hc;refine hc.mono fun e w' ⟨he,hb⟩=>⟨_,he,⟨[.int .i32 ((Lib.decodeL s).1:Nat),.int .i64 ((Lib.decodeL s).2:Nat)],⟨_,_,rfl,⟨_,rfl,rfl⟩,_,_,rfl,⟨_,rfl,rfl⟩,rfl⟩,?_⟩,hb⟩;simp
theorem aqZ{p:Prop}[Decidable p]{a b:Bool}:(if p then a else b)=true↔(p/\a=true\/¬p/\b=true):=by by_cases h:p<;>simp[h]
theorem Jm{s:List UInt8}{p:Nat}:Utf8.decode ⟨s.toArray⟩ p=Lib.decodeL (s.drop p):=(Lib.decodeL_drop ⟨s.toArray⟩ p).symm
theorem N8{s:List UInt8}{p:Nat}(h:p<s.length):s.drop p≠[]:=by
 intro e;have:=congrArg List.length e;simp at this;omega
theorem U4(r:Int):PC Tryz.prog V6 [(I32,.int r)] [(.bool,.bool (decide (32<=r/\r≠127)))]:=by
 apply ahw rfl;simp only[Un,aH,aB,aA,ay,aC,forall_const];congr 3
 rw[Bool.eq_iff_iff];simp only[aqZ,bR,rA,and_false,or_false]
theorem U3(s:List UInt8)(p:Nat)(h:p<s.length)(hs:s.length<=1000000):PC Tryz.prog V5 [(.str,.str s),(I64,.int (p:Int)),(I32,.int ((Lib.decodeL (s.drop p)).1:Nat))] [(.bool,.bool (stray (s.drop p)))]:=by
 apply ahv rfl;simp only[Um,aH,aB,aA,ay,aC,forall_const];unfold stray;refine ⟨fun hc=>?_,fun hc=>⟨by omega,by omega,by omega,?_⟩⟩
 .rw[decide_eq_false (show ¬(Lib.decodeL (s.drop p)).1=65533 by omega)];rfl
 .rw[bO,bO,eX];refine ⟨_,_,amo _ (N8 h),?_⟩;simp only[aB,aA,ay,aC,forall_const];rw[decide_eq_true (show (Lib.decodeL (s.drop p)).1=65533 by omega),Bool.true_and];congr 3
  apply decide_eq_decide.2;omega
theorem may_step{l:List UInt8}(h:l≠[]):yC l=(decide (32<=(Lib.decodeL l).1)&&(decide ((Lib.decodeL l).1≠127)&& !stray l)&&yC (l.drop (bf l))):=by
 unfold yC;rw[wX h,List.all_cons];have hd:=(DC h).2;have hst:stray (l.take (bf l))=stray l:=by unfold stray;rw[hd]
 unfold kR;rw[hd,hst]
theorem akl(s:List UInt8)(hs:s.length<=1000000):PC Tryz.prog Yx [(.str,.str s)] [(.bool,.bool (yC s))]:=by
 apply ajA rfl;simp only[WY,aH,aB,aA,ay,aC,forall_const];refine VC.go_loop (fun p:Nat=> [.bool false,.int (p:Int)]) (fun p=>p<=s.length/\yC s=yC (s.drop p)) (fun p=>s.length-p) 0 rfl ⟨bK _,rfl⟩ fun p hi=>?_;obtain ⟨i1,i2⟩:=hi;simp only[aH,aB,aA,ay,aC,forall_const,bO];refine ⟨fun hc=>?_,fun hc=>?_⟩
 .have hp:p<s.length:=by omega
  have hne:=N8 hp;have hw:=xg (s.drop p);have hle:=zJ hne;rw[jV] at hle;rw[may_step hne,rC] at i2;rw[Jm];have hwd:((Lib.decodeL (s.drop p)).2:Nat)=bf (s.drop p):=rfl;rw[hwd];refine ⟨by omega,by omega,_,U4 _,_,fun _=>U3 s p hp hs,fun hx=>?_,fun hx=>?_⟩
  .simp only[aB,aA,ay,aC,forall_const] at hx;have:yC s=false:=by
    rw[i2];rcases hx with hx|hx
    .have:¬(32<=(Lib.decodeL (s.drop p)).1/\(Lib.decodeL (s.drop p)).1≠127):=fun h2=>hx ⟨by omega,by omega⟩;by_cases h32:32<=(Lib.decodeL (s.drop p)).1
     .have:(Lib.decodeL (s.drop p)).1=127:=Classical.byContradiction fun h3=>this ⟨h32,h3⟩;simp[this]
     .simp[h32]
    .simp[hx]
   rw[this]
  .simp only[aB,aA,ay,aC,forall_const] at hx;refine ⟨p+bf (s.drop p),?_,⟨by omega,?_⟩,by omega⟩
   .rw[if_pos (show ((p:Nat):Int)<((s.length:Nat):Int) by omega)];congr 3
   .rw[i2];obtain ⟨h1,h2⟩:=Classical.not_not.1 hx.1;have h3:=hx.2;rw[h3,decide_eq_true (show 32<=(Lib.decodeL (s.drop p)).1 by omega),decide_eq_true (show (Lib.decodeL (s.drop p)).1≠127 by omega)];rfl
 .have:p=s.length:=by omega
  subst this;rw[i2,List.drop_length];unfold yC;rw[zo];rfl
def p8(l:List UInt8):Nat:=if stray l=true then 0 else bf l
section
variable{n b0 b1 b2 b3:Nat}
end
theorem Yd{l:List UInt8}(h:l≠[]):(p8 l=0/\bf l=1/\stray l=true/\128<=(l.getD 0 0).toNat)\/(p8 l=1/\bf l=1/\stray l=false/\(Lib.decodeL l).1=(l.getD 0 0).toNat/\(l.getD 0 0).toNat<128)\/
  (2<=p8 l/\p8 l=bf l/\stray l=false/\128<=(Lib.decodeL l).1/\128<=(l.getD 0 0).toNat):=by
 cases dec h with
 |ascii x t hl hx hd=>
  have hs:stray l=false:=by unfold stray;rw[hd,decide_eq_false (show ¬x.toNat=65533 by omega)];rfl
  have hw:bf l=1:=by unfold bf;rw[hd]
  refine .inr (.inl ⟨by unfold p8;rw[hs,if_neg (by decide),hw],hw,hs,?_,?_⟩)
  .rw[hd,hl];rfl
  .rw[hl];exact hx
 |bad x t hl hx hd=>
  have hs:stray l=true:=by unfold stray;rw[hd];rfl
  exact .inl ⟨by unfold p8;rw[if_pos hs],by unfold bf;rw[hd],hs,by rw[hl];exact hx⟩
 |many c t hl hc h2 hw hr hd=>
  have hs:stray l=false:=by unfold stray;rw[decide_eq_false (show ¬(Lib.decodeL l).2=1 by omega),Bool.and_false]
  have e:p8 l=bf l:=by unfold p8;rw[hs,if_neg (by decide)]
  have e2:bf l=c.length:=hw;refine .inr (.inr ⟨by omega,e,hs,hr,?_⟩);cases c with
  |nil=>simp at h2
  |cons x u=>rw[hl];exact hc x (by simp)
theorem Hw{l:List UInt8}(h:l≠[])(k:UInt8)(hk:k.toNat<128):l.take (bf l)=[k]↔(Lib.decodeL l).1=k.toNat:=by
 cases dec h with
 |ascii x t hl hx hd=>
  have hw:bf l=1:=by unfold bf;rw[hd]
  rw[hw,hd,hl];simp only[wz,List.take_zero,iJ,and_true];exact ⟨fun e=>by rw[e],fun e=>UInt8.toNat_inj.1 e⟩
 |bad x t hl hx hd=>
  have hw:bf l=1:=by unfold bf;rw[hd]
  rw[hw,hd,hl];simp only[wz,List.take_zero,iJ,and_true];refine ⟨fun e=>?_,fun e=>?_⟩
  .exfalso;rw[e] at hx;omega
  .exfalso;omega
 |many c t hl hc h2 hw hr hd=>
  have e2:bf l=c.length:=hw;refine ⟨fun e=>?_,fun e=>?_⟩
  .exfalso;have:=congrArg List.length e;rw[gD,e2,hl,bg] at this;simp at this;omega
  .exfalso;omega
theorem cur_step(s:List UInt8){f p w:Nat}(hf:f<=p)(hp:p+w<=s.length):(s.take p).drop f++(s.drop p).take w=(s.take (p+w)).drop f:=by
 rw[List.take_add,List.drop_append_of_le_length (by rw[gD];omega)]
def yP(o:Option (List (List UInt8))):List C:=(o.getD []).map .str
def Kk(o:Option (List (List UInt8))):Int:=if o.isSome then 0 else 6
theorem aiY(s:List UInt8)(hs:s.length<=1000000):PC Tryz.prog V7 [(.str,.str s)] [(.sl .str,.ls (yP (mH s))),(I64,.int (Kk (mH s)))]:=by
 apply ahx rfl;simp only[Uo,aH,aB,aA,ay,aC,forall_const];refine VC.go_loop (fun x:List (List UInt8)×Nat×Nat×Bool×Bool=> [.ls [],.int 0,.ls (x.1.map .str),.int (x.2.1:Int),.bool x.2.2.2.1,.bool x.2.2.2.2,.int (x.2.2.1:Int)])
  (fun x=>x.2.1<=x.2.2.1/\x.2.2.1<=s.length/\x.1.length<=x.2.1/\mH s=(wd x.2.2.2.1 x.2.2.2.2 ((s.take x.2.2.1).drop x.2.1) (chunks (s.drop x.2.2.1))).map (x.1++·)) (fun x=>s.length-x.2.2.1) ([],0,0,false,false) rfl
  ⟨aI _,bK _,aI _,by simp[mH]⟩ fun x hi=>?_
 obtain ⟨out,f,p,q,t⟩:=x;obtain ⟨i1,i2,i3,i4⟩:=hi;simp only at i1 i2 i3 i4;simp only[aH,aB,aA,ay,aC,forall_const,bO,aT];refine ⟨fun hc=>?_,fun hc=>?_⟩
 .have hp:p<s.length:=by omega
  have hne:=N8 hp;have hw:=xg (s.drop p);have hle:=zJ hne;rw[jV] at hle;rw[Jm];have hwd:((Lib.decodeL (s.drop p)).2:Nat)=bf (s.drop p):=rfl;have c34:=Hw hne 34 (by decide);have c92:=Hw hne 92 (by decide);have c32:=Hw hne 32 (by decide);rw[wX hne,rC] at i4;have hcur:=cur_step s (w:=bf (s.drop p)) i1 (by omega);rw[hwd,if_pos (show ((p:Nat):Int)<((s.length:Nat):Int) by omega)];have go:∀q' t',mH s=(wd q' t' ((s.take (p+bf (s.drop p))).drop f) (chunks (s.drop (p+bf (s.drop p))))).map (out++·)->∃s':List (List UInt8)×Nat×Nat×Bool×Bool,
    [C.ls [],C.int 0,C.ls (out.map C.str),C.int (f:Int),C.bool q',C.bool t',C.int ((p:Int)+(bf (s.drop p):Nat))]=
     [C.ls [],C.int 0,C.ls (s'.1.map C.str),C.int (s'.2.1:Int),C.bool s'.2.2.2.1,C.bool s'.2.2.2.2,C.int (s'.2.2.1:Int)]/\
    (s'.2.1<=s'.2.2.1/\s'.2.2.1<=s.length/\s'.1.length<=s'.2.1/\mH s=(wd s'.2.2.2.1 s'.2.2.2.2 ((s.take s'.2.2.1).drop s'.2.1) (chunks (s.drop s'.2.2.1))).map (s'.1++·))/\s.length-s'.2.2.1<s.length-p:=
   fun q' t' h=>⟨(out,f,p+bf (s.drop p),q',t'),rfl,⟨by simp only;omega,by simp only;omega,i3,h⟩,by simp only;omega⟩
  have hcl:((s.take p).drop f).length=p-f:=by rw[jV,gD];omega
  rw[wd] at i4;refine ⟨by omega,by omega,fun ht=>?_,fun ht=>⟨fun h34=>?_,fun h34=>⟨fun hq=>?_,fun hq=>⟨fun h32=>⟨fun hpf=>?_,fun hpf=>?_⟩,fun h32=>?_⟩⟩⟩⟩
  .rw[if_pos ht,hcur] at i4;exact go q false i4
  .have e:(Lib.decodeL (s.drop p)).1=34:=by omega
   rw[if_neg (by rw[ht];decide),if_pos (c34.2 e),hcur] at i4;rw[ht];exact go (!q) false i4
  .have e:¬(Lib.decodeL (s.drop p)).1=34:=by omega
   rw[if_neg (by rw[ht];decide),if_neg (fun h=>e (c34.1 h)),if_pos hq,hcur] at i4;have e2:decide ((((Lib.decodeL (s.drop p)).1:Nat):Int)=92)=decide ((s.drop p).take (bf (s.drop p))=[92]):=by
    apply decide_eq_decide.2;rw[c92];have:UInt8.toNat 92=92:=rfl;omega
   rw[e2];exact go q _ i4
  .have e:¬(Lib.decodeL (s.drop p)).1=34:=by omega
   have e3:(Lib.decodeL (s.drop p)).1=32:=by omega
   have hcn:(s.take p).drop f=[]:=jH (by omega);rw[if_neg (by rw[ht];decide),if_neg (fun h=>e (c34.1 h)),if_neg (by rw[hq];decide),if_pos (c32.2 e3),if_pos hcn] at i4;rw[i4];rfl
  .have e:¬(Lib.decodeL (s.drop p)).1=34:=by omega
   have e3:(Lib.decodeL (s.drop p)).1=32:=by omega
   have hcn:¬(s.take p).drop f=[]:=fun h=>by rw[h] at hcl;simp at hcl;omega
   have hw1:bf (s.drop p)=1:=by
    have:=congrArg List.length (c32.2 e3);rw[gD,jV] at this;simp at this;omega
   rw[if_neg (by rw[ht];decide),if_neg (fun h=>e (c34.1 h)),if_neg (by rw[hq];decide),if_pos (c32.2 e3),if_neg hcn,hw1,Option.map_map] at i4;refine ⟨by omega,by omega,by omega,by simp only[bn,zy];omega,by omega,(out++ [(s.take p).drop f],p+1,p+1,q,t),?_,⟨aI _,by simp only;omega,by simp;omega,?_⟩,by simp only;omega⟩
   .rw[hw1,eB];rfl
   .rw[i4,hq,ht];have hd:(s.take (p+1)).drop (p+1)=[]:=jH (by rw[jV,gD];omega);simp only[hd];congr 1
    funext y
    simp
  .have e:¬(Lib.decodeL (s.drop p)).1=34:=by omega
   have e3:¬(Lib.decodeL (s.drop p)).1=32:=by omega
   rw[if_neg (by rw[ht];decide),if_neg (fun h=>e (c34.1 h)),if_neg (by rw[hq];decide),if_neg (fun h=>e3 (c32.1 h)),hcur] at i4;rw[ht];exact go q false i4
 .have:p=s.length:=by omega
  subst this;rw[List.drop_length,zo,wd,eX] at i4;refine ⟨fun hx=>?_,fun hx=>⟨by omega,by omega,by omega,by simp only[bn,zy];omega,?_⟩⟩
  .rw[if_pos (by
    rcases hx with hx|hx
    .exact .inl hx
    .exact .inr (jH (by rw[jV];omega)))] at i4
   rw[i4];rfl
  .rw[if_neg (by
    rintro (h|h)
    .rw[h] at hx;simp at hx
    .have:=congrArg List.length h;rw[jV] at this;simp at this;omega)] at i4
   rw[i4,eX];simp[yP,Kk]
theorem YI{l:List UInt8}(h:l≠[])(k:UInt8)(hk:k.toNat<128):l.take (bf l)=[k]↔(l.getD 0 0).toNat=k.toNat:=by
 rw[Hw h k hk];rcases Yd h with ⟨r1,r2,r3,r4⟩|⟨r1,r2,r3,r4,r5⟩|⟨r1,r2,r3,r4,r5⟩
 .have:(Lib.decodeL l).1=65533:=by
   unfold stray at r3;simp only[aP,bR] at r3;exact r3.1
  omega
 .omega
 .omega
theorem Ox{l:List UInt8}(h:l≠[]):kR (l.take (bf l))=(decide (32<=(Lib.decodeL l).1)&&(decide ((Lib.decodeL l).1≠127)&& !stray l)):=by
 have hd:=(DC h).2;have hst:stray (l.take (bf l))=stray l:=by unfold stray;rw[hd]
 unfold kR;rw[hd,hst]
theorem take_one{l:List UInt8}(h:l≠[]):l.take 1=[l.getD 0 0]:=by cases l with|nil=>exact absurd rfl h|cons x t=>rfl
theorem Z5{l:List UInt8}(h:l≠[]):
  (p8 l=1/\bf l=1/\((l.getD 0 0).toNat=34\/(l.getD 0 0).toNat=92)/\qc (l.take (bf l))=[92,l.getD 0 0])\/
  ((p8 l=0\/p8 l=1/\((l.getD 0 0).toNat<32\/(l.getD 0 0).toNat=127))/\bf l=1/\qc (l.take (bf l))=[92,lC ((l.getD 0 0).toNat/16),lC ((l.getD 0 0).toNat%16)])\/
  (p8 l=bf l/\(p8 l=1->¬((l.getD 0 0).toNat=34\/(l.getD 0 0).toNat=92)/\¬((l.getD 0 0).toNat<32\/(l.getD 0 0).toNat=127))/\qc (l.take (bf l))=l.take (bf l)):=by
 have ho:=Ox h;have c34:=YI h 34 (by decide);have c92:=YI h 92 (by decide);have b34:UInt8.toNat 34=34:=rfl;have b92:UInt8.toNat 92=92:=rfl;rw[b34] at c34;rw[b92] at c92;have h1:=take_one h;rcases Yd h with ⟨r1,r2,r3,r4⟩|⟨r1,r2,r3,r4,r5⟩|⟨r1,r2,r3,r4,r5⟩
 .refine .inr (.inl ⟨.inl r1,r2,?_⟩);rw[r3] at ho;unfold qc qk;rw[ho,if_neg (by simp),r2,h1];rfl
 .by_cases hq:(l.getD 0 0).toNat=34\/(l.getD 0 0).toNat=92
  .refine .inl ⟨r1,r2,hq,?_⟩;have:kR (l.take (bf l))=true:=by
    rw[ho,r3,r4,decide_eq_true (show 32<=(l.getD 0 0).toNat by omega),decide_eq_true (show (l.getD 0 0).toNat≠127 by omega)];rfl
   unfold qc qk;rw[if_pos this,if_pos (hq.imp c34.2 c92.2),r2,h1];rfl
  .have hcc:¬(l.take (bf l)=[34]\/l.take (bf l)=[92]):=fun hh=>hq (hh.imp c34.1 c92.1);by_cases hb:(l.getD 0 0).toNat<32\/(l.getD 0 0).toNat=127
   .refine .inr (.inl ⟨.inr ⟨r1,hb⟩,r2,?_⟩);have:¬kR (l.take (bf l))=true:=by
     rw[ho,r3,r4];simp only[aP,bR];omega
    unfold qc qk;rw[if_neg this,r2,h1];rfl
   .refine .inr (.inr ⟨by omega,fun _=>⟨hq,hb⟩,?_⟩);have:kR (l.take (bf l))=true:=by
     rw[ho,r3,r4,decide_eq_true (show 32<=(l.getD 0 0).toNat by omega),decide_eq_true (show (l.getD 0 0).toNat≠127 by omega)];rfl
    unfold qc qk;rw[if_pos this,if_neg hcc];simp
 .have hcc:¬(l.take (bf l)=[34]\/l.take (bf l)=[92]):=fun hh=>by
   rcases hh with hh|hh
   .have:=c34.1 hh;omega
   .have:=c92.1 hh;omega
  refine .inr (.inr ⟨r2,fun h1=>by omega,?_⟩);have:kR (l.take (bf l))=true:=by
   rw[ho,r3,decide_eq_true (show 32<=(Lib.decodeL l).1 by omega),decide_eq_true (show (Lib.decodeL l).1≠127 by omega)];rfl
  unfold qc qk;rw[if_pos this,if_neg hcc];simp
def sP(x:UInt8):Int:=if kG x<16 then (kG x:Int) else-1
theorem apo:∀n:Fin 256,Lib.indexByte [48,49,50,51,52,53,54,55,56,57,97,98,99,100,101,102] (UInt8.ofNat n.1)=sP (UInt8.ofNat n.1):=by decide+kernel
def rest(s:List UInt8)(i:Nat):List UInt8:=(s.drop i).take (s.length-1-i)
theorem ado{x:UInt8}{k:Nat}(hk:k<256):x=UInt8.ofNat k↔x.toNat=k:=by
 constructor
 .rintro rfl;rw[mh,wo (by simpa using hk)]
 .intro h;apply UInt8.toNat_inj.1;rw[h,mh,wo (by simpa using hk)]
abbrev ajZ:FuncId:=102
abbrev ajl:FuncId:=162
def ab3:Prop:=∀s:List UInt8,s.length<=1000000->PC Tryz.prog ajZ [(.str,.str s)] [(.str,.str (qs s))]
def aaN:Prop:=∀s:List UInt8,s.length<=1000000->PC Tryz.prog ajl [(.str,.str s)] [(.str,.str ((lo s).getD [])),(.bool,.bool (lo s).isSome)]
theorem Jh:∀(n:Nat) (s o:List UInt8),s.length<=n->lo s=some o->o.length<=s.length
 |0,s,o,hn,h=>by
  have:s=[]:=jH (by omega);subst this;rw[lo.eq_def] at h;simp at h;rw[h];exact aI _
 |n+1,s,o,hn,h=>by
  rw[lo.eq_def] at h;split at h
  .simp at h;rw[<-h];exact aI _
  .rename_i x t;simp only[bn] at hn |-;split at h
   .cases h
   .split at h
    .split at h
     .cases h
     .rename_i y u;simp only[bn] at hn |-;split at h
      .obtain ⟨o2,h2,rfl⟩:=uO.1 h;have:=Jh n u o2 (by omega) h2;simp only[bn];omega
      .split at h
       .cases h
       .rename_i z v;simp only[bn] at hn |-;split at h
        .obtain ⟨o2,h2,rfl⟩:=uO.1 h;have:=Jh n v o2 (by omega) h2;simp only[bn];omega
        .cases h
    .obtain ⟨o2,h2,rfl⟩:=uO.1 h;have:=Jh n t o2 (by omega) h2;simp only[bn];omega
def AQ(s:List UInt8):Int:=if (iW s).isSome then 0 else 6
theorem agY(hQ:ab3)(hL:aaN)(s:List UInt8)(hs:s.length<=1000000):PC Tryz.prog TQ [(.str,.str s)] [(.str,.str ((iW s).getD [])),(I64,.int (AQ s))]:=by
 apply afZ rfl;simp only[Sg,aH,aB,aA,ay,aC,forall_const,Int.toNat_zero];have hend:(((s.length:Nat):Int)-1).toNat=s.length-1:=by omega
 have hone:(1:Int).toNat=1:=rfl;rw[hend,hone];have c0:=ado (x:=s.getD 0 0) (k:=34) (by decide);have cl:=ado (x:=s.getD (s.length-1) 0) (k:=34) (by decide);rw[show UInt8.ofNat 34=34 from rfl] at c0 cl;unfold AQ;refine ⟨fun _=>by omega,fun _=>by omega,fun _=>by omega,fun _=>by omega,fun hx=>?_,fun hx=>⟨by omega,by omega,by omega,?_⟩⟩
 .have:iW s=none:=by
   unfold iW;rw[if_neg];rintro ⟨h1,h2,h3⟩;have:=c0.1 h2;have:=cl.1 h3;omega
  rw[this];rfl
 .have he:2<=s.length/\s.getD 0 0=34/\s.getD (s.length-1) 0=34:=⟨by omega,c0.2 (by omega),cl.2 (by omega)⟩;have hu:iW s=(match lo (inner s) with|some o=>if qs o=s then some o else none|none=>none):=by unfold iW;rw[if_pos he];cases lo (inner s)<;>rfl
  have hin:(s.take (s.length-1)).drop 1=inner s:=by unfold inner;rw[List.drop_take];rfl
  have hil:(inner s).length<=1000000:=by unfold inner;rw[gD,jV];omega
  rw[hin];refine ⟨_,_,hL (inner s) hil,?_⟩;have hlen:((lo (inner s)).getD []).length<=1000000:=by
   cases hlo:lo (inner s) with
   |none=>simp
   |some o=>have:=Jh _ _ o (aI _) hlo;simp only[yL];omega
  refine ⟨_,fun _=>hQ _ hlen,?_⟩;simp only[aB,aA,ay,aC,forall_const];cases hlo:lo (inner s) with
  |none=>
   rw[hlo] at hu;simp only at hu;rw[hu];simp
  |some o=>
   rw[hlo] at hu;simp only at hu;rw[hu];by_cases hq:qs o=s
   .simp[hq]
   .simp[hq]
end Go.Vc
