/-
  Contracts of functions of the program, each out of its condition or by a walk, and plain lemmas.
-/
import Derived.Test.YtaehhpempnelhaaGreatDoorQTx1
import Derived.Shelf.Strings.Builder1
import Derived.Shelf.Strings.Builder2
import Derived.Shelf.Strings.OnBuilder
import Derived.Shelf.Small.Strs
import Derived.Shelf.Strings.BuilderF
import Derived.Shelf.Strings.BuilderK
import Derived.Shelf.Strings.BuilderRune
import Derived.Shelf.Strings.Builder2Cap
import Derived.Shelf.Strconv.Itoa0
import Derived.Shelf.Strconv.Itoa1
import Derived.Shelf.LaysM
import Derived.Shelf.Strconv.Itoa2
import Derived.Shelf.Strconv.Itoa3
import Derived.Shelf.Strconv.Itoa4
import Derived.Test.YtaehhpempnelhaaGreatDoorQVcs1
import Derived.Test.YtaehhpempnelhaaGreatDoorQTt
import Derived.Test.YtaehhpempnelhaaGreatDoorQTx2
import Derived.Test.YtaehhpempnelhaaGreatDoorQYs
import Derived.Test.YtaehhpempnelhaaGreatDoorQYt
import Derived.Test.YtaehhpempnelhaaGreatDoorQYu
import Derived.Laws.ResultCell
namespace Go.Proofs
open Go.Shelf
def Tryz.lays156_ren:Go.Shelf.Ren:=⟨fun|156=>56|165=>103|166=>104|169=>105|240=>130|241=>131|276=>169|277=>170|n=>n,fun|31=>128|9=>9|3=>3|4=>4|0=>0|20=>20|72=>194|76=>198|70=>192|37=>22|75=>197|127=>242|164=>310|5=>5|80=>186|n=>n,fun|n=>n⟩
theorem Tryz.lays156:Go.Proofs.Lays.n156 Tryz.prog Tryz.lays156_ren:= {
 mixed:=by kernel_rfl
 f156:=Tryz.func56.trans (congrArg some (by kernel_rfl))
 f165:=Tryz.func103.trans (congrArg some (by kernel_rfl))
 f166:=Tryz.func104.trans (congrArg some (by kernel_rfl))
 f169:=Tryz.func105.trans (congrArg some (by kernel_rfl))
 f240:=Tryz.func130.trans (congrArg some (by kernel_rfl))
 f241:=Tryz.func131.trans (congrArg some (by kernel_rfl))
 f276:=Tryz.func169.trans (congrArg some (by kernel_rfl))
 f277:=Tryz.func170.trans (congrArg some (by kernel_rfl))
 t0:=Tryz.underlying0
 a0:=Tryz.isAgg0
 z0:=Tryz.sizeOf0
 v0:=Tryz.zeroValue0
 t3:=Tryz.underlying3
 a3:=Tryz.isAgg3
 z3:=Tryz.sizeOf3
 v3:=Tryz.zeroValue3
 t4:=Tryz.underlying4
 a4:=Tryz.isAgg4
 z4:=Tryz.sizeOf4
 v4:=Tryz.zeroValue4
 t9:=Tryz.underlying9
 a9:=Tryz.isAgg9
 z9:=Tryz.sizeOf9
 v9:=Tryz.zeroValue9
 t20:=Tryz.underlying20
 a20:=Tryz.isAgg20
 z20:=Tryz.sizeOf20
 v20:=Tryz.zeroValue20
 t31:=Tryz.underlying128
 a31:=Tryz.isAgg128
 z31:=Tryz.sizeOf128
 v31:=Tryz.zeroValue128
 t37:=Tryz.underlying22
 a37:=Tryz.isAgg22
 z37:=Tryz.sizeOf22
 v37:=Tryz.zeroValue22
 t70:=Tryz.underlying192
 a70:=Tryz.isAgg192
 z70:=Tryz.sizeOf192
 v70:=Tryz.zeroValue192
 t72:=Tryz.underlying194
 a72:=Tryz.isAgg194
 z72:=Tryz.sizeOf194
 v72:=Tryz.zeroValue194
 t75:=Tryz.underlying197
 a75:=Tryz.isAgg197
 z75:=Tryz.sizeOf197
 v75:=Tryz.zeroValue197
 t76:=Tryz.underlying198
 a76:=Tryz.isAgg198
 z76:=Tryz.sizeOf198
 v76:=Tryz.zeroValue198
 t127:=Tryz.underlying242
 a127:=Tryz.isAgg242
 z127:=Tryz.sizeOf242
 v127:=Tryz.zeroValue242
 t164:=Tryz.underlying310
 a164:=Tryz.isAgg310
 z164:=Tryz.sizeOf310
 v164:=Tryz.zeroValue310}
theorem Tryz.Builder_Extra_156:Builder.Extra Tryz.prog Tryz.lays156_ren:= {
 sizeBuilder:=by kernel_rfl
 liesBuilder:=by kernel_rfl
 t5:=Tryz.underlying5
 a5:=Tryz.isAgg5
 z5:=Tryz.sizeOf5
 v5:=Tryz.zeroValue5
 infoByte:=by kernel_rfl
 cellsByte:=by kernel_rfl
 sizeByte:=by kernel_rfl
 neB5:=by decide}
open Go.RowKit in
theorem Tryz.strings_Join_none(a:Option Addr)(c:Nat)(sep:ByteArray)(w:World):
  Calls Tryz.prog 56 #[.slice a 0 c,.string sep] w fun e w'=>e= .returned (.string ⟨#[]⟩)/\w'=w:=Any.strings_Join_none Tryz.lays156 Tryz.Builder_Extra_156 a c sep w
open Go.RowKit in
theorem Tryz.strings_Join(bk o c:Nat)(xs:List ByteArray)(sep:ByteArray)(w:World)(hcells:∀(j:Nat) x,xs[j]?=some x->w.cell? ⟨bk,o+j,none⟩=some (.string x))(hbk:bk<w.heap.size)(hN:xs.length<=140737488355328)(hcap:xs.length<=c)(hlen:(Lib.join (xs.map (·.data.toList)) sep.data.toList).length<=140737488355328):
  Calls Tryz.prog 56 #[.slice (some ⟨bk,o,none⟩) xs.length c,.string sep] w fun e w'=>e= .returned (.string ⟨(Lib.join (xs.map (·.data.toList)) sep.data.toList).toArray⟩)/\Below w.heap.size w w':=Any.strings_Join Tryz.lays156 Tryz.Builder_Extra_156 bk o c xs sep w hcells hbk hN hcap hlen
def Tryz.laysM173_ren:Go.Shelf.Ren:=⟨fun|173=>101|246=>125|283=>163|284=>164|285=>165|286=>166|129=>65|317=>211|318=>212|319=>213|320=>214|337=>239|338=>240|n=>n,fun|2=>2|3=>3|9=>9|4=>4|171=>303|0=>0|53=>68|37=>22|5=>5|173=>305|212=>359|51=>24|20=>20|213=>360|46=>98|232=>391|233=>392|n=>n,fun|17=>2|18=>6|19=>7|n=>n⟩
theorem Tryz.laysM173:Go.Proofs.LaysM.n173 Tryz.prog Tryz.laysM173_ren:= {
 mixed:=by kernel_rfl
 f129:=Tryz.func65.trans (congrArg some (by kernel_rfl))
 f173:=Tryz.func101.trans (congrArg some (by kernel_rfl))
 f246:=Tryz.func125.trans (congrArg some (by kernel_rfl))
 f283:=Tryz.func163.trans (congrArg some (by kernel_rfl))
 f284:=Tryz.func164.trans (congrArg some (by kernel_rfl))
 f285:=Tryz.func165.trans (congrArg some (by kernel_rfl))
 f286:=Tryz.func166.trans (congrArg some (by kernel_rfl))
 f317:=Tryz.func211.trans (congrArg some (by kernel_rfl))
 f318:=Tryz.func212.trans (congrArg some (by kernel_rfl))
 f319:=Tryz.func213.trans (congrArg some (by kernel_rfl))
 f320:=Tryz.func214.trans (congrArg some (by kernel_rfl))
 f337:=Tryz.func239.trans (congrArg some (by kernel_rfl))
 f338:=Tryz.func240.trans (congrArg some (by kernel_rfl))
 t0:=Tryz.underlying0
 a0:=Tryz.isAgg0
 z0:=Tryz.sizeOf0
 v0:=Tryz.zeroValue0
 t2:=Tryz.underlying2
 a2:=Tryz.isAgg2
 z2:=Tryz.sizeOf2
 v2:=Tryz.zeroValue2
 t3:=Tryz.underlying3
 a3:=Tryz.isAgg3
 z3:=Tryz.sizeOf3
 v3:=Tryz.zeroValue3
 t4:=Tryz.underlying4
 a4:=Tryz.isAgg4
 z4:=Tryz.sizeOf4
 v4:=Tryz.zeroValue4
 t5:=Tryz.underlying5
 a5:=Tryz.isAgg5
 z5:=Tryz.sizeOf5
 v5:=Tryz.zeroValue5
 t9:=Tryz.underlying9
 a9:=Tryz.isAgg9
 z9:=Tryz.sizeOf9
 v9:=Tryz.zeroValue9
 t20:=Tryz.underlying20
 a20:=Tryz.isAgg20
 z20:=Tryz.sizeOf20
 v20:=Tryz.zeroValue20
 t37:=Tryz.underlying22
 a37:=Tryz.isAgg22
 z37:=Tryz.sizeOf22
 v37:=Tryz.zeroValue22
 t46:=Tryz.underlying98
 a46:=Tryz.isAgg98
 z46:=Tryz.sizeOf98
 v46:=Tryz.zeroValue98
 t51:=Tryz.underlying24
 a51:=Tryz.isAgg24
 z51:=Tryz.sizeOf24
 v51:=Tryz.zeroValue24
 t53:=Tryz.underlying68
 a53:=Tryz.isAgg68
 z53:=Tryz.sizeOf68
 v53:=Tryz.zeroValue68
 t171:=Tryz.underlying303
 a171:=Tryz.isAgg303
 z171:=Tryz.sizeOf303
 v171:=Tryz.zeroValue303
 t173:=Tryz.underlying305
 a173:=Tryz.isAgg305
 z173:=Tryz.sizeOf305
 v173:=Tryz.zeroValue305
 t212:=Tryz.underlying359
 a212:=Tryz.isAgg359
 z212:=Tryz.sizeOf359
 v212:=Tryz.zeroValue359
 t213:=Tryz.underlying360
 a213:=Tryz.isAgg360
 z213:=Tryz.sizeOf360
 t232:=Tryz.underlying391
 a232:=Tryz.isAgg391
 z232:=Tryz.sizeOf391
 v232:=Tryz.zeroValue391
 t233:=Tryz.underlying392
 a233:=Tryz.isAgg392
 z233:=Tryz.sizeOf392
 v233:=Tryz.zeroValue392
 g17:=by kernel_rfl
 g18:=by kernel_rfl
 g19:=by kernel_rfl
 i0:=by kernel_rfl
 i2:=by kernel_rfl
 i3:=by kernel_rfl
 i4:=by kernel_rfl
 i5:=by kernel_rfl
 i9:=by kernel_rfl
 i20:=by kernel_rfl
 i37:=by kernel_rfl
 i46:=by kernel_rfl
 i51:=by kernel_rfl
 i53:=by kernel_rfl
 i171:=by kernel_rfl
 i173:=by kernel_rfl
 i212:=by kernel_rfl
 i232:=by kernel_rfl
 i233:=by kernel_rfl
 m17:=by kernel_rfl
 m18:=by kernel_rfl
 m19:=by kernel_rfl}
open Go.RowKit Go.Sort Go.Lib in
theorem Tryz.strconv_FormatInt_10(n:Int)(h0: -9223372036854775808<=n)(h1:n<=9223372036854775807)(w:World)(htab:Lib.TabIs Tryz.prog w "internal/strconv.uint64pow10" .u64 Lib.pow10Tab):
  Calls Tryz.prog 101 #[.int .i64 n,.int .i64 10] w fun e w'=>e= .returned (.string ⟨(Lib.itoa n).toArray⟩)/\∃k os,w'=grow (w.drewN k) os:=Any.strconv_FormatInt_10 Tryz.laysM173 n h0 h1 w htab
end Go.Proofs
set_option maxRecDepth 100000
namespace Go.Vc
open Go Go.Proofs Go.Plain Go.RowKit
open Go.Lib (decDigits nDigits)
theorem aaS:qN Tryz.prog Mx=some 2:=by kernel_rfl
theorem ZT:Tryz.prog.globalNamed Mx=some 2:=by kernel_rfl
theorem pow_eq:ace=Lib.pow10Tab:=by decide+kernel
theorem ap8{w:World}(h:KW Tryz.prog w):Lib.TabIs Tryz.prog w "internal/strconv.uint64pow10" .u64 Lib.pow10Tab:=by
 obtain ⟨t,fz,e⟩:=h.2 _ (.head _) _ aaS;unfold Lib.TabIs World.var?;have e2:Tryz.prog.globalNamed "internal/strconv.uint64pow10" =some 2:=ZT;rw[e2];simp only[Option.bind_some,e,pow_eq]
abbrev afv:FuncId:=101
theorem Lm(n:Int)(h0:0<=n)(h1:n<9223372036854775808):PC Tryz.prog afv [(I64,.int n),(I64,.int 10)] [(.str,.str (fG n))]:=by
 refine PC.oF (by decide) ⟨⟨_,Tryz.func101,by kernel_rfl,by kernel_rfl⟩,fun w N vs aL hrd=>?_⟩;obtain ⟨v,r,rfl,⟨us,hu,rfl⟩,v2,r2,rfl,⟨Dc,hu2,rfl⟩,hr⟩:=hrd;simp only[dH] at hr;subst hr;simp only[Rd] at hu hu2;subst hu hu2;have hc:=Tryz.strconv_FormatInt_10 n (by omega) (by omega) w (ap8 aL);have e:Lib.itoa n=fG n:=by unfold Lib.itoa fG;rw[if_neg (by omega)]
 rw[e] at hc;refine hc.mono fun e w' ⟨he,k,os,hb⟩=>⟨_,he,⟨[.string ⟨(fG n).toArray⟩],⟨_,_,rfl,⟨_,rfl,rfl⟩,rfl⟩,?_⟩,?_⟩
 .simp
 .rw[hb];exact ⟨rfl,rfl,rfl,by show w.heap.size<=(w.heap++os).size;rw[Array.size_append];omega,fun j hj=>Sort.heap_grow_old (w.drewN k) os hj⟩
theorem BA(n:Int)(h0:0<=n)(h1:n<9223372036854775808):PC Tryz.prog RG [(I64,.int n)] [(.str,.str (fG n))]:=by
 apply afn rfl;simp only[Rk,aH,aB,aA,ay,aC,forall_const];exact ⟨_,Lm n h0 h1,rfl⟩
theorem akn(n:Int)(h0:0<=n)(h1:n<65536):PC Tryz.prog Q8 [(.int .u16,.int n)] [(.str,.str (fG n))]:=by
 apply aff rfl;simp only[QV,aH,aB,aA,ay,aC,forall_const,Em];have e:(n+9223372036854775808)%18446744073709551616-9223372036854775808=n:=by omega
 first|rw[e]|skip
 exact ⟨_,Lm n h0 (by omega),rfl⟩
theorem Xo(n:Int)(h0:0<=n)(h1:n<4294967296):PC Tryz.prog Q7 [(.int .u32,.int n)] [(.str,.str (fG n))]:=by
 apply afe rfl;simp only[QU,aH,aB,aA,ay,aC,forall_const,Em];have e:(n+9223372036854775808)%18446744073709551616-9223372036854775808=n:=by omega
 first|rw[e]|skip
 exact ⟨_,Lm n h0 (by omega),rfl⟩
theorem Ze(s:List UInt8)(hs:s.length<=1000000):PC Tryz.prog V9 [(aQ,.ls (ofBytes s))] [(.str,.str (qs s))]:=by
 apply ahz rfl;simp only[Ur,aH,aB,aA,ay,aC,forall_const,Gw];exact ⟨_,aa2 s hs,rfl⟩
theorem NU:∀ws:List (List UInt8),Lib.join ws [32]=iN ws
 | []=>rfl
 | [w]=>by rw[Lib.join_one];rfl
 |w::v::r=>by
  have ih:=NU (v::r);rw[Lib.join_cons] at ih |-;rw[show iN (w::v::r)=w++32::iN (v::r) from rfl,<-ih];simp[Lib.joinTail]
abbrev air:FuncId:=56
theorem aoW(ws:List (List UInt8))(h1:ws.length<=1000000000)(h2:(iN ws).length<=140737488355328):PC Tryz.prog air [(.sl .str,.ls (ws.map .str)),(.str,.str [32])] [(.str,.str (iN ws))]:=by
 refine PC.oF (by decide) ⟨⟨_,Tryz.func56,by kernel_rfl,by kernel_rfl⟩,fun w N vs aL hrd=>?_⟩;obtain ⟨v,r,rfl,⟨us,hu,rfl⟩,v2,r2,rfl,⟨Dc,hu2,rfl⟩,hr⟩:=hrd;simp only[dH] at hr;subst hr;simp only[Rd,C.kU,aT] at hu hu2;subst hu2;obtain ⟨a,cap,rfl,hcap,hmx,hrow⟩:=hu;have fin:∀w',Below w.heap.size w w'->∀e:Ending,e= .returned (.string ⟨(iN ws).toArray⟩)->∃v,e= .returned v/\JM w' (fun b=>N b\/w.heap.size<=b) [(.str,.str (iN ws))] v/\Below w.heap.size w w':=fun w' hb e he=>⟨_,he,⟨[.string ⟨(iN ws).toArray⟩],⟨_,_,rfl,⟨_,rfl,rfl⟩,rfl⟩,by simp⟩,hb⟩;by_cases hw:ws=[]
 .subst hw;refine (Tryz.strings_Join_none a cap ⟨#[32]⟩ w).mono fun e w' ⟨he,hb⟩=>?_;rw[hb];exact fin w ⟨rfl,rfl,rfl,aI _,fun _ _=>rfl⟩ e he
 .obtain ⟨b,off,rfl,hN,hlt,hat⟩:=hrow (by simpa using hw);have hc:=Tryz.strings_Join b off cap (ws.map fun x=>⟨x.toArray⟩) ⟨#[32]⟩ w (fun j x hx=>?_) hlt (by rw[aT];omega) (by rw[aT];exact hcap) ?_
  .rw[aT] at hc;have e:(ws.map fun x=>(⟨x.toArray⟩:ByteArray)).map (·.data.toList)=ws:=by rw[qy];exact List.map_id'' (fun _=>rfl) ws
   rw[e] at hc;refine hc.mono fun e w' ⟨he,hb⟩=>fin w' hb e ?_;rw[he,show (⟨#[32]⟩:ByteArray).data.toList=[32] from rfl,NU]
  .rw[kM] at hx;obtain ⟨y,hy,rfl⟩:=uO.1 hx;obtain ⟨us,hl,hcs,hr⟩:=hat j (.str y) (by rw[kM,hy];rfl);change us=[.string ⟨y.toArray⟩] at hr
   subst hr;have h3:=hcs 0 (.string ⟨y.toArray⟩) rfl;have e3:off+j*Sh.size .str+0=off+j:=by simp[Sh.size]
   rw[e3] at h3;exact h3
  .have e:(ws.map fun x=>(⟨x.toArray⟩:ByteArray)).map (·.data.toList)=ws:=by rw[qy];exact List.map_id'' (fun _=>rfl) ws
   rw[e,show (⟨#[32]⟩:ByteArray).data.toList=[32] from rfl,NU];exact h2
end Go.Vc
namespace Go.Vc
open Go Go.Proofs Go.Plain
open Go.Lib (decDigits nDigits)
end Go.Vc
namespace Go.Vc
open Go Go.Proofs Go.Plain
open Go.Lib (decDigits nDigits)
abbrev fO:=List (List UInt8)
def iter(f:Pl->fO->Option (Pl×fO)):Nat->Pl->fO->Option Pl
 |0,p,ws=>if ws=[] then some p else none
 |k+1,p,ws=>if ws=[] then some p else match f p ws with|none=>none|some x=>iter f k x.1 x.2
theorem anS(f:Pl->fO->Option (Pl×fO))(k:Nat)(p:Pl):iter f k p []=some p:=by cases k<;>rfl
theorem amK{f:Pl->fO->Option (Pl×fO)}{k:Nat}{p q:Pl}{ws r:fO}(h:ws≠[])(hf:f p ws=some (q,r)):iter f (k+1) p ws=iter f k q r:=by rw[iter,if_neg h,hf]
theorem amL{f:Pl->fO->Option (Pl×fO)}{k:Nat}{p:Pl}{ws:fO}(h:ws≠[])(hf:f p ws=none):iter f (k+1) p ws=none:=by rw[iter,if_neg h,hf]
def Runs(f:Pl->fO->Option (Pl×fO))(p:Pl)(ws:fO)(q:Pl)(r:fO):Prop:=∃n,r.length+n<=ws.length/\∀k,iter f (n+k) p ws=iter f k q r
structure Good (f:Pl->fO->Option (Pl×fO)):Prop where
 marker:∀p (b:Bool) r,f p (xC::(if b then uR else uz)::r)=some ({p with sm:=true,m:=b},r)
 type:∀p (n:Int) r,0<=n->n<=255->f p (xQ::fG n::r)=some ({p with st:=true,ty:=n},r)
 seq:∀p (n:Int) r,0<=n->n<65536->f p (yu::fG n::r)=some ({p with sq:=true,seq:=n},r)
 time:∀p (n:Int) r,0<=n->n<4294967296->f p (xR::fG n::r)=some ({p with bL:=true,time:=n},r)
 aN:∀p (n:Int) r,0<=n->n<4294967296->f p (xS::fG n::r)=some ({p with ss:=true,aN:=n},r)
 map:∀p (a b:Int) r,0<=a->a<=255->0<=b->b<=255->f p (sH::fG a::fG b::r)=some ({p with maps:=p.maps++ [⟨a,b⟩]},r)
 over:∀p (a:Int) d r,0<=a->a<=255->f p (pY::fG a::qs d::r)=some ({p with over:=p.over++ [⟨a,d⟩]},r)
 drop:∀p (a:Int) r,0<=a->a<=255->f p (rZ::fG a::r)=some ({p with drops:=p.drops++ [a]},r)
 add:∀p (a:Int) d r,0<=a->a<=255->f p (qg::fG a::qs d::r)=some ({p with adds:=p.adds++ [⟨a,d⟩]},r)
 asg:∀p r,f p (xI::r)=some ({p with np:=true},r)
section
variable{f:Pl->fO->Option (Pl×fO)}(G:Good f)
include G
end
def xD(f:Pl->fO->Option (Pl×fO))(s:List UInt8):Option Pl:=
 if s=[] then some Pl.zero else
  match mH s with
  |none=>none
  |some ws=>match iter f ws.length Pl.zero ws with
   |none=>none
   |some p=>if fT p/\qI p=s then some p else none
end Go.Vc
namespace Go.Vc
open Go Go.Proofs Go.Plain
open Go.Lib (decDigits nDigits)
def vT(p:Pl)(ws:fO):Option (Pl×fO):=if (nD p ws false).2.2 then none else some ((nD p ws false).1,(nD p ws false).2.1)
def lens(p:Pl):Nat:=p.maps.length+p.over.length+p.drops.length+p.adds.length
theorem aa7(most:Nat)(w:List UInt8):(aX most w).1<=most:=zC most _ _ (bK _)
theorem MG(p:Pl)(ws:fO)(wr:Bool)(Q:Pl×fO×Bool->Prop) 
  (h1:Q ({p with sm:=true,m:=decide (ws.tail.headD []=uR)},ws.tail.tail,(wr||ws.isEmpty||ws.tail.isEmpty)||(decide (ws.tail.headD []≠uR)&&decide (ws.tail.headD []≠uz))))
  (h2:Q ({p with st:=true,ty:=(aX 255 (ws.tail.headD [])).1},ws.tail.tail,(wr||ws.isEmpty||ws.tail.isEmpty)||(aX 255 (ws.tail.headD [])).2))
  (h3:Q ({p with sq:=true,seq:=(aX 65535 (ws.tail.headD [])).1},ws.tail.tail,(wr||ws.isEmpty||ws.tail.isEmpty)||(aX 65535 (ws.tail.headD [])).2))
  (h4:Q ({p with bL:=true,time:=(aX 4294967295 (ws.tail.headD [])).1},ws.tail.tail,(wr||ws.isEmpty||ws.tail.isEmpty)||(aX 4294967295 (ws.tail.headD [])).2))
  (h5:Q ({p with ss:=true,aN:=(aX 4294967295 (ws.tail.headD [])).1},ws.tail.tail,(wr||ws.isEmpty||ws.tail.isEmpty)||(aX 4294967295 (ws.tail.headD [])).2))
  (h6:Q ({p with maps:=p.maps++ [⟨(aX 255 (ws.tail.headD [])).1,(aX 255 (ws.tail.tail.headD [])).1⟩]},ws.tail.tail.tail,(((wr||ws.isEmpty||ws.tail.isEmpty)||(aX 255 (ws.tail.headD [])).2)||ws.tail.tail.isEmpty)||(aX 255 (ws.tail.tail.headD [])).2))
  (h7:Q ({p with over:=p.over++ [⟨(aX 255 (ws.tail.headD [])).1,(iW (ws.tail.tail.headD [])).getD []⟩]},ws.tail.tail.tail,(((wr||ws.isEmpty||ws.tail.isEmpty)||(aX 255 (ws.tail.headD [])).2)||ws.tail.tail.isEmpty)|| !(iW (ws.tail.tail.headD [])).isSome))
  (h8:Q ({p with drops:=p.drops++ [((aX 255 (ws.tail.headD [])).1:Int)]},ws.tail.tail,(wr||ws.isEmpty||ws.tail.isEmpty)||(aX 255 (ws.tail.headD [])).2))
  (h9:Q ({p with adds:=p.adds++ [⟨(aX 255 (ws.tail.headD [])).1,(iW (ws.tail.tail.headD [])).getD []⟩]},ws.tail.tail.tail,(((wr||ws.isEmpty||ws.tail.isEmpty)||(aX 255 (ws.tail.headD [])).2)||ws.tail.tail.isEmpty)|| !(iW (ws.tail.tail.headD [])).isSome))
  (h10:Q ({p with np:=true},ws.tail,wr||ws.isEmpty))
  (h0:Q (p,ws.tail,true)):Q (nD p ws wr):=by
 unfold nD;dsimp only;by_cases c1:ws.headD []=xC
 .rw[if_pos c1];exact h1
 rw[if_neg c1];by_cases c2:ws.headD []=xQ
 .rw[if_pos c2];exact h2
 rw[if_neg c2];by_cases c3:ws.headD []=yu
 .rw[if_pos c3];exact h3
 rw[if_neg c3];by_cases c4:ws.headD []=xR
 .rw[if_pos c4];exact h4
 rw[if_neg c4];by_cases c5:ws.headD []=xS
 .rw[if_pos c5];exact h5
 rw[if_neg c5];by_cases c6:ws.headD []=sH
 .rw[if_pos c6];exact h6
 rw[if_neg c6];by_cases c7:ws.headD []=pY
 .rw[if_pos c7];exact h7
 rw[if_neg c7];by_cases c8:ws.headD []=rZ
 .rw[if_pos c8];exact h8
 rw[if_neg c8];by_cases c9:ws.headD []=qg
 .rw[if_pos c9];exact h9
 rw[if_neg c9];by_cases c10:ws.headD []=xI
 .rw[if_pos c10];exact h10
 rw[if_neg c10];exact h0
theorem apg(p:Pl)(ws:fO)(wr:Bool)(h:gH p):gH (nD p ws wr).1:=by
 obtain ⟨n1,n2,n3,n4,n5,n6⟩:=h;have a1:=aa7 65535 (ws.tail.headD []);have a2:=aa7 4294967295 (ws.tail.headD []);refine MG p ws wr (fun G=>gH G.1) ?_ ?_ ?_ ?_ ?_ ?_ ?_ ?_ ?_ ?_ ?_;all_goals (unfold gH;(try simp only);omega)
theorem anW(p:Pl)(ws:fO)(wr:Bool)(h:ws≠[]):lens (nD p ws wr).1+(nD p ws wr).2.1.length<=lens p+ws.length/\(nD p ws wr).2.1.length<ws.length:=by
 have hl:0<ws.length:=yO.2 h;by_cases h1:ws.length=1
 all_goals
  refine MG p ws wr (fun G=>lens G.1+G.2.1.length<=lens p+ws.length/\G.2.1.length<ws.length) ?_ ?_ ?_ ?_ ?_ ?_ ?_ ?_ ?_ ?_ ?_;all_goals (unfold lens;(try simp only[bg,sU,List.length_tail]);omega)
theorem aan(p:Pl)(ws:fO)(wr:Bool):(nD p ws wr).2.1=ws.tail\/(nD p ws wr).2.1=ws.tail.tail\/(nD p ws wr).2.1=ws.tail.tail.tail:=by
 refine MG p ws wr (fun G=>G.2.1=ws.tail\/G.2.1=ws.tail.tail\/G.2.1=ws.tail.tail.tail) ?_ ?_ ?_ ?_ ?_ ?_ ?_ ?_ ?_ ?_ ?_;all_goals simp
theorem aph(p:Pl)(ws:fO)(wr:Bool):∀w∈(nD p ws wr).2.1,w∈ws:=by
 intro w hw;rcases aan p ws wr with h|h|h<;>rw[h] at hw
 .exact List.mem_of_mem_tail hw
 .exact List.mem_of_mem_tail (List.mem_of_mem_tail hw)
 .exact List.mem_of_mem_tail (List.mem_of_mem_tail (List.mem_of_mem_tail hw))
end Go.Vc
namespace Go.Vc
open Go Go.Proofs Go.Plain
open Go.Lib (decDigits nDigits)
theorem aoS(l:List UInt8):(qs l).length<=3*l.length+2:=by
 have key:((chunks l).flatMap qc).length<=3*l.length:=by
  induction l using Jj with
  |nil=>rw[zo];simp
  |step l hne ih=>
   rw[wX hne,List.flatMap_cons,bg];have h2:=zJ hne;have hp:=xg l;have h1:(qc (l.take (bf l))).length<=3*bf l:=by
    rcases Z5 hne with ⟨_,r2,_,r4⟩|⟨_,r2,r4⟩|⟨_,_,r4⟩
    .rw[r4,r2];simp
    .rw[r4,r2];simp
    .rw[r4,gD];omega
   rw[jV] at ih;omega
 unfold qs;simp only[bn,bg,zy];omega
theorem pO(w:List UInt8)(r:fO):(iy (w::r)).length=w.length+1+(iy r).length:=by
 unfold iy;simp only[List.flatMap_cons,bg,bn]
theorem DZ:(iy ([]:fO)).length=0:=rfl
theorem xq{n:Int}(h:n<4294967296):(fG n).length<=10:=(apq (by omega)).2
theorem zY:xC.length=6/\uR.length=2/\uz.length=3/\xQ.length=4/\yu.length=3/\xR.length=4/\xS.length=4/\sH.length=3/\pY.length=4/\rZ.length=4/\qg.length=3/\xI.length=5:=by decide
theorem fl1(p:Pl):(iy (tk1 p)).length<=11:=by
 obtain ⟨k1,k2,k3,_⟩:=zY;unfold tk1;split
 .split<;>simp only[pO,DZ]<;>omega
 .exact by simp[iy]
theorem fl2(p:Pl)(h:p.ty<4294967296):(iy (tk2 p)).length<=16:=by
 have:=xq h;have:=zY;unfold tk2;split
 .simp only[pO,DZ];omega
 .exact by simp[iy]
theorem fl3(p:Pl)(h:p.seq<4294967296):(iy (tk3 p)).length<=16:=by
 have:=xq h;have:=zY;unfold tk3;split
 .simp only[pO,DZ];omega
 .exact by simp[iy]
theorem fl4(p:Pl)(h:p.time<4294967296):(iy (tk4 p)).length<=16:=by
 have:=xq h;have:=zY;unfold tk4;split
 .simp only[pO,DZ];omega
 .exact by simp[iy]
theorem fl5(p:Pl)(h:p.aN<4294967296):(iy (wD p)).length<=16:=by
 have:=xq h;have:=zY;unfold wD;split
 .simp only[pO,DZ];omega
 .exact by simp[iy]
theorem flM:∀(l:List Mp),(∀m∈l,1<=m.fr/\m.fr<=255/\1<=m.to/\m.to<=255)->(iy (qz l)).length<=26*l.length
 | [],_=>aI _
 |m::l,h=>by
  obtain ⟨h1,h2,h3,h4⟩:=h m (by simp);have:=xq (n:=m.fr) (by omega);have:=xq (n:=m.to) (by omega);have:=zY;have ih:=flM l (fun m hm=>h m (by simp[hm]));rw[show qz (m::l)=sH::fG m.fr::fG m.to::qz l from rfl,pO,pO,pO,bn];omega
theorem Qp(w:List UInt8)(hw:w.length<=4):∀(l:List El),(∀e∈l,1<=e.id/\e.id<=255/\e.data.length<=255)->(iy (mU w l)).length<=800*l.length
 | [],_=>aI _
 |m::l,h=>by
  obtain ⟨h1,h2,h3⟩:=h m (by simp);have:=xq (n:=m.id) (by omega);have:=aoS m.data;have ih:=Qp w hw l (fun m hm=>h m (by simp[hm]));rw[show mU w (m::l)=w::fG m.id::qs m.data::mU w l from rfl,pO,pO,pO,bn];omega
theorem flD:∀(l:List Int),(∀d∈l,1<=d/\d<=255)->(iy (qA l)).length<=26*l.length
 | [],_=>aI _
 |m::l,h=>by
  obtain ⟨h1,h2⟩:=h m (by simp);have:=xq (n:=m) (by omega);have:=zY;have ih:=flD l (fun m hm=>h m (by simp[hm]));rw[show qA (m::l)=rZ::fG m::qA l from rfl,pO,pO,bn];omega
theorem flN(p:Pl):(iy (wC p)).length<=6:=by
 unfold wC;split
 .exact by decide
 .exact by simp[iy]
theorem apk(p:Pl)(hp:fT p)(hn:gH p):(iy (toks p)).length<=100+26*p.maps.length+800*p.over.length+26*p.drops.length+800*p.adds.length:=by
 obtain ⟨⟨_,_,_,_,_,t0,t1⟩,r1,r2,r3,r4,r5,_⟩:=hp;obtain ⟨n1,n2,n3,n4,n5,n6⟩:=hn;have a1:=fl1 p;have a2:=fl2 p (by omega);have a3:=fl3 p (by omega);have a4:=fl4 p (by omega);have a5:=fl5 p (by omega);have a6:=flM p.maps fun m hm=>by
  have a1:=vH r1 m.fr (gK.2 ⟨m,hm,rfl⟩);have a2:=vH r2 m.to (gK.2 ⟨m,hm,rfl⟩);exact ⟨a1.1,a1.2,a2.1,a2.2⟩
 have a7:=Qp pY (by decide) p.over (Jl r4);have a8:=flD p.drops (vH r3);have a9:=Qp qg (by decide) p.adds (Jl r5);have a10:=flN p;unfold toks;simp only[amM,bg];omega
theorem anr(p:Pl)(hp:fT p)(hn:gH p):(qI p).length<=100+26*p.maps.length+800*p.over.length+26*p.drops.length+800*p.adds.length:=by
 have:=apk p hp hn;unfold qI;rw[<-alL,jV];omega
theorem anb{l:List Mp}{i:Nat}(hi:i<l.length):qz (l.take (i+1))=qz (l.take i)++ [sH,fG (l.getD i Mp.zero).fr,fG (l.getD i Mp.zero).to]:=by
 have e:l.getD i Mp.zero=l[i]:=by simp[List.getD,hi]
 rw[e,jm hi];unfold qz;rw[List.flatMap_append];rfl
theorem ZR{w:List UInt8}{l:List El}{i:Nat}(hi:i<l.length):mU w (l.take (i+1))=mU w (l.take i)++ [w,fG (l.getD i El.zero).id,qs (l.getD i El.zero).data]:=by
 have e:l.getD i El.zero=l[i]:=by simp[List.getD,hi]
 rw[e,jm hi];unfold mU;rw[List.flatMap_append];rfl
theorem anc{l:List Int}{i:Nat}(hi:i<l.length):qA (l.take (i+1))=qA (l.take i)++ [rZ,fG (l.getD i 0)]:=by
 have e:l.getD i 0=l[i]:=by simp[List.getD,hi]
 rw[e,jm hi];unfold qA;rw[List.flatMap_append];rfl
theorem aaQ:∀l:List Mp,(qz l).length=3*l.length
 | []=>rfl
 |m::l=>by rw[show qz (m::l)=sH::fG m.fr::fG m.to::qz l from rfl,bn,bn,bn,aaQ l,bn];omega
theorem Nr(w:List UInt8):∀l:List El,(mU w l).length=3*l.length
 | []=>rfl
 |m::l=>by rw[show mU w (m::l)=w::fG m.id::qs m.data::mU w l from rfl,bn,bn,bn,Nr w l,bn];omega
theorem aaR:∀l:List Int,(qA l).length=2*l.length
 | []=>rfl
 |m::l=>by rw[show qA (m::l)=rZ::fG m::qA l from rfl,bn,bn,aaR l,bn];omega
theorem aow(p:Pl):(tk1 p).length<=2/\(tk2 p).length<=2/\(tk3 p).length<=2/\(tk4 p).length<=2/\(wD p).length<=2/\(wC p).length<=1:=by
 unfold tk1 tk2 tk3 tk4 wD wC;refine ⟨?_,?_,?_,?_,?_,?_⟩<;>split<;>simp
theorem ajF(p:Pl)(hf:iE p)(hn:gH p):PC Tryz.prog Xw [(eu,eD p)] [(.str,.str (if fT p then qI p else [])),(I64,.int (if fT p then 0 else 1))]:=by
 have hf0:=hf;obtain ⟨e1,e2,e3,e4⟩:=hf;have hn0:=hn;obtain ⟨n1,n2,n3,n4,n5,n6⟩:=hn;obtain ⟨l1,l2,l3,l4,l5,lN⟩:=aow p;apply aiH rfl;simp only[Vy,aH,aB,aA,ay,aC,forall_const,aT];refine ⟨_,U6 p hf0,fun h=>?_,fun h=>?_⟩
 .have hr:¬fT p:=by simpa using h
  rw[if_neg hr,if_neg hr]
 have hp:fT p:=by simpa using h
 have hp0:=hp;rw[if_pos hp,if_pos hp];obtain ⟨⟨_,_,_,_,_,t0,t1⟩,r1,r2,r3,r4,r5,_⟩:=hp;refine VC.go_meet [.ls ((tk1 p).map .str)] ?_ ?_
 .simp only[aH,aB,aA,ay,aC,forall_const,aT];refine ⟨fun hb=>⟨by simp only[bn,zy];omega,?_⟩,fun hb=>⟨fun hc=>⟨by simp only[bn,zy];omega,?_⟩,fun hc=>?_⟩⟩
  .unfold tk1;rw[if_pos hb.1,if_pos hb.2];rfl
  .unfold tk1;rw[if_pos hc,if_neg (by rcases hb with hb|hb;exact absurd hc hb;simp[hb])];rfl
  .unfold tk1;rw[if_neg (by simp[hc])];rfl
 refine VC.go_meet [.ls ((tk1 p++tk2 p).map .str)] ?_ ?_
 .simp only[aH,aB,aA,ay,aC,forall_const,aT];refine ⟨fun hb=>⟨_,BA p.ty t0 (by omega),by simp only[bn,zy,bg];omega,?_⟩,fun hb=>?_⟩
  .unfold tk2;rw[if_pos hb];simp only[eB,dI];rfl
  .unfold tk2;rw[if_neg (by simp[hb]),jl]
 refine VC.go_meet [.ls ((tk1 p++tk2 p++tk3 p).map .str)] ?_ ?_
 .simp only[aH,aB,aA,ay,aC,forall_const,aT];refine ⟨fun hb=>⟨_,akn p.seq n1 n2,by simp only[bn,zy,bg];omega,?_⟩,fun hb=>?_⟩
  .unfold tk3;rw[if_pos hb];simp only[eB,dI];rfl
  .unfold tk3;rw[if_neg (by simp[hb]),jl]
 refine VC.go_meet [.ls ((tk1 p++tk2 p++tk3 p++tk4 p).map .str)] ?_ ?_
 .simp only[aH,aB,aA,ay,aC,forall_const,aT];refine ⟨fun hb=>⟨_,Xo p.time n3 n4,by simp only[bn,zy,bg];omega,?_⟩,fun hb=>?_⟩
  .unfold tk4;rw[if_pos hb];simp only[eB,dI];rfl
  .unfold tk4;rw[if_neg (by simp[hb]),jl]
 refine VC.go_meet [.ls ((tk1 p++tk2 p++tk3 p++tk4 p++wD p).map .str)] ?_ ?_
 .simp only[aH,aB,aA,ay,aC,forall_const,aT];refine ⟨fun hb=>⟨_,Xo p.aN n5 n6,by simp only[bn,zy,bg];omega,?_⟩,fun hb=>?_⟩
  .unfold wD;rw[if_pos hb];simp only[eB,dI];rfl
  .unfold wD;rw[if_neg (by simp[hb]),jl]
 obtain ⟨T,hT⟩:∃T,tk1 p++tk2 p++tk3 p++tk4 p++wD p=T:=⟨_,rfl⟩;have lT:T.length<=10:=by rw[<-hT];simp only[bg];omega
 rw[hT];have hm:∀m∈p.maps,1<=m.fr/\m.fr<=255/\1<=m.to/\m.to<=255:=fun m hm=>by
  have a1:=vH r1 m.fr (gK.2 ⟨m,hm,rfl⟩);have a2:=vH r2 m.to (gK.2 ⟨m,hm,rfl⟩);exact ⟨a1.1,a1.2,a2.1,a2.2⟩
 have ho:=Jl r4;have ha:=Jl r5;have hd:=vH r3;refine VC.go_loop (fun i:Nat=> [.ls ((T++qz (p.maps.take i)).map .str),.int (i:Int)]) (fun i=>i<=p.maps.length) (fun i=>p.maps.length-i) 0 (by rw[List.take_zero,show qz []=[] from rfl,jl];rfl) (bK _) fun i hi=>?_;have lL:=aaQ (p.maps.take i);rw[gD] at lL;simp only[aH,aB,aA,ay,aC,forall_const,aT,bg];refine ⟨fun hc=>?_,fun hc=>?_⟩
 .have hk:i<p.maps.length:=by omega
  have hm:=hm _ (List.getElem_mem hk);have e:p.maps.getD i Mp.zero=p.maps[i]:=by simp[List.getD,hk]
  rw[bO,IL p.maps i hk,e];refine ⟨by omega,by omega,_,BA p.maps[i].fr (by omega) (by omega),_,BA p.maps[i].to (by omega) (by omega),by simp only[bn,zy];omega,by omega,i+1,?_,by omega,by omega⟩;rw[anb hk,e];simp only[eB,dI];rfl
 obtain rfl:i=p.maps.length:=by omega
 rw[eX] at lL |-;obtain ⟨T2,Qh⟩:∃T2,T++qz p.maps=T2:=⟨_,rfl⟩;have lT2:T2.length<=3000010:=by rw[<-Qh];simp only[bg];omega
 simp only[<-eB,Qh];refine VC.go_loop (fun i:Nat=> [.ls ((T2++mU pY (p.over.take i)).map .str),.int (i:Int)]) (fun i=>i<=p.over.length) (fun i=>p.over.length-i) 0 (by rw[List.take_zero,show mU pY []=[] from rfl,jl];rfl) (bK _) fun i hi=>?_;have lL:=Nr pY (p.over.take i);rw[gD] at lL;simp only[aH,aB,aA,ay,aC,forall_const,aT,bg];refine ⟨fun hc=>?_,fun hc=>?_⟩
 .have hk:i<p.over.length:=by omega
  have hm:=ho _ (List.getElem_mem hk);have e:p.over.getD i El.zero=p.over[i]:=by simp[List.getD,hk]
  rw[zR p.over i hk,e];simp only[gJ,gX,gM,bU,Gw];refine ⟨by omega,by omega,_,BA p.over[i].id (by omega) (by omega),_,Ze p.over[i].data (by omega),by simp only[bn,zy];omega,by omega,i+1,?_,by omega,by omega⟩;rw[ZR hk,e];simp only[eB,dI];rfl
 obtain rfl:i=p.over.length:=by omega
 rw[eX] at lL |-;obtain ⟨T3,Qg⟩:∃T3,T2++mU pY p.over=T3:=⟨_,rfl⟩;have lT3:T3.length<=6000010:=by rw[<-Qg];simp only[bg];omega
 simp only[<-eB,Qg];refine VC.go_loop (fun i:Nat=> [.ls ((T3++qA (p.drops.take i)).map .str),.int (i:Int)]) (fun i=>i<=p.drops.length) (fun i=>p.drops.length-i) 0 (by rw[List.take_zero,show qA []=[] from rfl,jl];rfl) (bK _) fun i hi=>?_;have lL:=aaR (p.drops.take i);rw[gD] at lL;simp only[aH,aB,aA,ay,aC,forall_const,aT,bg];refine ⟨fun hc=>?_,fun hc=>?_⟩
 .have hk:i<p.drops.length:=by omega
  have hm:=hd _ (List.getElem_mem hk);have e:p.drops.getD i 0=p.drops[i]:=by simp[List.getD,hk]
  rw[bO,Iu p.drops i hk,e];refine ⟨by omega,by omega,_,BA p.drops[i] (by omega) (by omega),by simp only[bn,zy];omega,by omega,i+1,?_,by omega,by omega⟩;rw[anc hk,e];simp only[eB,dI];rfl
 obtain rfl:i=p.drops.length:=by omega
 rw[eX] at lL |-;obtain ⟨T4,Qf⟩:∃T4,T3++qA p.drops=T4:=⟨_,rfl⟩;have lT4:T4.length<=8000010:=by rw[<-Qf];simp only[bg];omega
 simp only[<-eB,Qf];refine VC.go_loop (fun i:Nat=> [.ls ((T4++mU qg (p.adds.take i)).map .str),.int (i:Int)]) (fun i=>i<=p.adds.length) (fun i=>p.adds.length-i) 0 (by rw[List.take_zero,show mU qg []=[] from rfl,jl];rfl) (bK _) fun i hi=>?_;have lL:=Nr qg (p.adds.take i);rw[gD] at lL;simp only[aH,aB,aA,ay,aC,forall_const,aT,bg];refine ⟨fun hc=>?_,fun hc=>?_⟩
 .have hk:i<p.adds.length:=by omega
  have hm:=ha _ (List.getElem_mem hk);have e:p.adds.getD i El.zero=p.adds[i]:=by simp[List.getD,hk]
  rw[zR p.adds i hk,e];simp only[gJ,gX,gM,bU,Gw];refine ⟨by omega,by omega,_,BA p.adds[i].id (by omega) (by omega),_,Ze p.adds[i].data (by omega),by simp only[bn,zy];omega,by omega,i+1,?_,by omega,by omega⟩;rw[ZR hk,e];simp only[eB,dI];rfl
 obtain rfl:i=p.adds.length:=by omega
 rw[eX] at lL |-;obtain ⟨T5,Qe⟩:∃T5,T4++mU qg p.adds=T5:=⟨_,rfl⟩;have lT5:T5.length<=11000010:=by rw[<-Qe];simp only[bg];omega
 simp only[<-eB,Qe];have hall:T5++wC p=toks p:=by
  rw[<-Qe,<-Qf,<-Qg,<-Qh,<-hT];unfold toks;simp only[dI]
 refine VC.go_meet [.ls ((T5++wC p).map .str)] ?_ ?_
 .simp only[aH,aB,aA,ay,aC,forall_const,aT];refine ⟨fun hb=>⟨by simp only[bn,zy];omega,?_⟩,fun hb=>?_⟩
  .unfold wC;rw[if_pos hb];simp only[eB,dI];rfl
  .unfold wC;rw[if_neg (by simp[hb]),jl]
 rw[hall];simp only[aH,aB,aA,ay,aC,forall_const];have hpl:=anr p hp0 hn0;refine ⟨_,aoW (toks p) (by rw[<-hall];simp only[bg];omega) (by change (qI p).length<=_;omega),rfl⟩
end Go.Vc
namespace Go.Vc
open Go Go.Proofs Go.RowKit Go.Plain
theorem Yk{W:World}{N:Nat->Prop}:∀l:List Mp,bF W N wm (tY l) (l.map qF)
 | []=>rfl
 |m::l=>⟨[.int .i64 m.fr,.int .i64 m.to],tY l,rfl,⟨rfl,[.int .i64 m.fr],[.int .i64 m.to],rfl,rfl,rfl,[.int .i64 m.to],[],rfl,rfl,rfl⟩,Yk l⟩
theorem Yl{W:World}{N:Nat->Prop}:∀l:List Int,bF W N I64 (l.map (Value.int .i64 ·)) (l.map .int)
 | []=>rfl
 |m::l=>⟨[.int .i64 m],l.map (Value.int .i64 ·),rfl,rfl,Yl l⟩
theorem JB{W:World}{lo:Nat}{e:TypeId}{size:Nat}{v:Value}{n:Nat}{xs:List Value}(h:W.ownsRow lo e size v n xs):W.iA (fun g=>lo<=g) e size v n xs:=h
theorem IJ{W:World}{lo:Nat}{e:TypeId}{size:Nat}{v:Value}{n:Nat}{xs:List Value}(h:W.ownsRow lo e size v n xs):∀g,bH v=some g->lo<=g:=by
 intro g hg;rcases h.2 with ⟨h0,_⟩|⟨g',cap,cur,h1,h2,_⟩
 .rw[h0] at hg;cases hg
 .rw[h1] at hg;simp only[bH,bQ] at hg;omega
theorem II{W:World}{lo:Nat}{e:TypeId}{size:Nat}{v:Value}{n:Nat}{xs:List Value}(h:W.ownsRow lo e size v n xs):∃a l c,v= .slice a l c:=by
 rcases h.2 with ⟨h0,_⟩|⟨g',cap,cur,h1,h2,_⟩
 .exact ⟨_,_,_,h0⟩
 .exact ⟨_,_,_,h1⟩
theorem aoQ{W:World}{lo pb rb:Nat}{p:Pl}(h:iT W lo pb rb p):∃vm vo vd va,W.heap[pb]?=some (.cells (iw p vm vo vd va) 29 (0,0))/\Rd W (fun b=>lo<=b) eu (iw p vm vo vd va).toList (eD p)/\(∃a l c,vm= .slice a l c)/\(∃a l c,vo= .slice a l c)/\(∃a l c,vd= .slice a l c)/\(∃a l c,va= .slice a l c):=by
 obtain ⟨vm,vo,vd,va,xo,xa,h1,h2,h3,h4,o1,o2,o3,o4,r1,r2,d,n1,n2,n3,n4⟩:=h;refine ⟨vm,vo,vd,va,h1,?_,II o1,II o2,II o3,II o4⟩;have a1:Rd W (fun b=>lo<=b) (.sl wm) [vm] (yZ p.maps):=BX (xs:=tY p.maps) (et:=127) (B:=fun g=>lo<=g) (by rw[show (yZ p.maps).toList.length=p.maps.length by simp[yZ]];exact JB o1) (Yk p.maps) (IJ o1);have a2:Rd W (fun b=>lo<=b) (.sl lU) [vo] (jL p.over):=BX (xs:=xo) (et:=103) (B:=fun g=>lo<=g) (by rw[show (jL p.over).toList.length=p.over.length by simp[jL]];exact JB o2) (r1.mono (aI _) fun b hb _=>⟨rfl,hb.1⟩) (IJ o2);have a3:Rd W (fun b=>lo<=b) (.sl I64) [vd] (Ints p.drops):=BX (xs:=p.drops.map (Value.int .i64 ·)) (et:=3) (B:=fun g=>lo<=g) (by rw[show (Ints p.drops).toList.length=p.drops.length by simp[Ints]];exact JB o3) (Yl p.drops) (IJ o3);have a4:Rd W (fun b=>lo<=b) (.sl lU) [va] (jL p.adds):=BX (xs:=xa) (et:=103) (B:=fun g=>lo<=g) (by rw[show (jL p.adds).toList.length=p.adds.length by simp[jL]];exact JB o4) (r2.mono (aI _) fun b hb _=>⟨rfl,hb.1⟩) (IJ o4);exact ⟨rfl,[_],_,rfl,rfl,rfl,[_],_,rfl,rfl,rfl,[_],_,rfl,rfl,rfl,[_],_,rfl,rfl,rfl,[_],_,rfl,rfl,rfl,[_],_,rfl,rfl,rfl,[_],_,rfl,rfl,rfl,[_],_,rfl,rfl,rfl,[_],_,rfl,rfl,rfl,[_],_,rfl,rfl,
  rfl,[vm],_,rfl,a1,rfl,[vo],_,rfl,a2,rfl,[vd],_,rfl,a3,rfl,[va],_,rfl,a4,rfl,[_],[],rfl,rfl,rfl⟩
abbrev zeroCells:Array Value:=iw Pl.zero (.slice none 0 0) (.slice none 0 0) (.slice none 0 0) (.slice none 0 0)
theorem vw(W:World)(N:Nat->Prop):Rd W N eu zeroCells.toList (eD Pl.zero):=by
 have a:∀s,Rd W N (.sl s) [.slice none 0 0] (.ls []):=fun s=>⟨none,0,rfl,aI _,bK _,fun h=>absurd rfl h⟩;exact ⟨rfl,[_],_,rfl,rfl,rfl,[_],_,rfl,rfl,rfl,[_],_,rfl,rfl,rfl,[_],_,rfl,rfl,rfl,[_],_,rfl,rfl,rfl,[_],_,rfl,rfl,rfl,[_],_,rfl,rfl,rfl,[_],_,rfl,rfl,rfl,[_],_,rfl,rfl,rfl,[_],_,rfl,rfl,
  rfl,[_],_,rfl,a _,rfl,[_],_,rfl,a _,rfl,[_],_,rfl,a _,rfl,[_],_,rfl,a _,rfl,[_],[],rfl,rfl,rfl⟩
theorem alZ(W:World)(lo pb rb:Nat)(h1:lo<=pb)(h2:lo<=rb)(h3:pb≠rb)(h:W.heap[pb]?=some (.cells zeroCells 29 (0,0))):iT W lo pb rb Pl.zero:=
 ⟨.slice none 0 0,.slice none 0 0,.slice none 0 0,.slice none 0 0,[],[],h,h1,h2,h3,World.ownsRow_nil _ _ _ _,World.ownsRow_nil _ _ _ _,World.ownsRow_nil _ _ _ _,World.ownsRow_nil _ _ _ _,rfl,rfl,(fun g h=>by cases h),by simp[Value.ownBlock],by simp[Value.ownBlock],by simp[Value.ownBlock],by simp[Value.ownBlock]⟩
theorem aln{W:World}(aL:KW Tryz.prog W){lo pb rb:Nat}{p:Pl}(hf:iE p)(hn:gH p){cs:Array Value}(h:Rd W (fun b=>lo<=b) eu cs.toList (eD p)):
  Calls Tryz.prog 20 #[.agg cs] W fun e W'=>e= .returned (.tuple #[.string ⟨(if fT p then qI p else []).toArray⟩,.int .i64 (if fT p then 0 else 1)])/\Below W.heap.size W W':=by
 have hc:=((ajF p hf hn).mq (by decide)).2 W (fun b=>lo<=b) [.agg cs] aL ⟨_,_,rfl,⟨cs.toList,h,by simp[Sh.mk,Sh.isAgg]⟩,rfl⟩;refine hc.mono fun e w' ⟨v,he,⟨vs,⟨v1,r1,hv1,⟨us,hu,hv2⟩,v3,r3,hv3,⟨Dc,hu2,hv4⟩,hr⟩,hv⟩,hb⟩=>⟨?_,hb⟩;simp only[dH] at hr;subst hr;simp only[Rd] at hu hu2;subst hu hu2;subst hv1 hv3;simp[Sh.mk,Sh.isAgg] at hv2 hv4;subst hv2 hv4;simp at hv;rw[he,hv]
theorem ak4(s:List UInt8)(hs:s.length<=1000000)(w:World)(aL:KW Tryz.prog w):
  Calls Tryz.prog 49 #[.string ⟨s.toArray⟩] w fun e w'=>∃sv,e= .returned (.tuple #[sv,.int .i64 (Kk (mH s))])/\(∀lo rb,w'.heap.size<=lo->lo<=rb->gT w' lo rb sv ((mH s).getD []))/\Below w.heap.size w w':=by
 have h:=((aiY s hs).mq (by decide)).2 w (fun _=>True) [.string ⟨s.toArray⟩] aL ⟨_,_,rfl,⟨[.string ⟨s.toArray⟩],rfl,rfl⟩,rfl⟩;refine h.mono fun e w' ⟨v,he,⟨vs,⟨v1,r1,hv1,⟨us,hu,hv2⟩,v3,r3,hv3,⟨Dc,hu2,hv4⟩,hr⟩,hv⟩,hb⟩=>?_;simp only[dH] at hr;subst hr;simp only[Rd] at hu2;obtain ⟨a,cap,e1,e2,e3,e4⟩:=hu;subst e1 hu2;subst hv1 hv3;simp[Sh.mk,Sh.isAgg] at hv2 hv4;subst hv2 hv4;simp at hv;have el:(C.ls (yP (mH s))).toList.length=((mH s).getD []).length:=by simp[yP]
 have el2:(yP (mH s)).length=((mH s).getD []).length:=by simp[yP]
 rw[el] at e2;rw[el2] at hv;refine ⟨_,by rw[he,hv],fun lo rb h1 h2=>⟨a,cap,rfl,e2,e3,fun hne=>?_⟩,hb⟩;obtain ⟨b,off,ea,_,hlt,hat⟩:=e4 (by simpa [yP] using hne);refine ⟨b,off,ea,by omega,by omega,fun j x hx=>?_⟩;obtain ⟨us,hl,hcs,hr⟩:=hat j (.str x) (by simp[yP,hx]);change us=[.string ⟨x.toArray⟩] at hr
 subst hr;have h3:=hcs 0 (.string ⟨x.toArray⟩) rfl;have e3:off+j*Sh.size .str+0=off+j:=by simp[Sh.size]
 rw[e3] at h3;exact h3
theorem wR{P:Program}{fn:Func}{p u:Tmp}{ty:TypeId}(h:fn.results= #[.cell p ty,.tmp u])(tmps:Array Value)(w:World)(g:Nat)(t:TypeId)(cs:Array Value)(fr:Nat×Nat)(d:TypeDesc)
  (hp:tmps.getD p undef= .pointer (some ⟨g,0,none⟩)) (hg:w.heap[g]?=some (.cells cs t fr))
  (hu:P.underlying ty=some d) (hd:(match d with| .struct _| .array _ _=>true|_=>false)=true) (hi:(P.info? ty).map (·.size)=some cs.size) (v:Value) (hv:tmps.getD u undef=v):
  (results fn tmps).run P w= .ok (.tuple #[.agg cs,v]) w:=by
 have hp':tmps[p]?.getD undef= .pointer (some ⟨g,0,none⟩):=by simpa using hp
 have hv':tmps[u]?.getD undef=v:=by simpa using hv
 simp[results,h,hp',hv',asAddr,run_loadVar_row w g t ty cs fr d hg hu hd hi]
end Go.Vc
